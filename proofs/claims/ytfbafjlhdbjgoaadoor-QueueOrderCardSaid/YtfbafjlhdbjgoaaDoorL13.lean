/- The walk of QueueOrder. -/
import Derived.Test.YtfbafjlhdbjgoaaDoorP3
import Derived.Test.YtfbafjlhdbjgoaaDoorG3
import Derived.BigRegion
namespace Go.Proofs.YtfbafjlhdbjgoaaDoor
set_option linter.unusedVariables false
set_option linter.unusedSimpArgs false
open Go.RowKit Go.Sort
set_option maxRecDepth 100000

/-- The flags' row beside the queue. -/
structure DW (w2 wr : World) (q m1 m2 n : Nat) (tv : Value) (its : List QItem) (out : Value) (ks : List Cmd) (D : Nat) (ds : List Bool) : Prop where
  kw : KW w2 wr q m1 m2 n tv its out ks
  row : BoolRow wr D ds
  low : w2.heap.size ≤ D
  nq : ¬ QF q m1 m2 tv D
  no : out.ownBlock ≠ some D
  nd : ∀ x ∈ its, ∀ b o, 0 < x.1.bs.length → x.1.da = some ⟨b, o, none⟩ → b ≠ D
section
variable {w2 wr w' : World} {q m1 m2 n n' : Nat} {tv tv' out : Value} {its its' : List QItem} {ks : List Cmd} {D : Nat} {ds : List Bool}
theorem DW.grow (h : DW w2 wr q m1 m2 n tv its out ks D ds) (hb : RowKit.Below wr.heap.size wr w') : DW w2 w' q m1 m2 n tv its out ks D ds := ⟨h.kw.grow hb, h.row.mono hb, h.low, h.nq, h.no, h.nd⟩
theorem DW.stepQ (h : DW w2 wr q m1 m2 n tv its out ks D ds) (ht : Turn (QF q m1 m2 tv) wr w') (hq : QAt w' q m1 m2 n' tv' its') (hF : ∀ k, QF q m1 m2 tv' k → QF q m1 m2 tv k ∨ wr.heap.size ≤ k) (hnew : ∀ x ∈ its', ∃ y ∈ its, x.1 = y.1) : DW w2 w' q m1 m2 n' tv' its' out ks D ds := by
  refine ⟨h.kw.stepQ ht hq hF (fun x hx => Or.inl (hnew x hx)), (ht.block D h.row.lt h.nq).trans h.row, h.low, fun hk => ?_, h.no, fun x hx b o hl e => ?_⟩
  · rcases hF D hk with h1 | h1
    · exact h.nq h1
    · have := h.row.lt; omega
  · obtain ⟨y, hy, e1⟩ := hnew x hx
    rw [e1] at hl e
    exact h.nd y hy b o hl e
theorem DW.set_ (h : DW w2 wr q m1 m2 n tv its out ks D ds) (i : Nat) (b : Bool) : DW w2 (wr.setCell ⟨D, i, none⟩ (.bool b)) q m1 m2 n tv its out ks D (ds.set i b) :=
  ⟨h.kw.stepD (Turn.of_cell wr ⟨D, i, none⟩ _) h.low h.nq h.no h.nd, h.row.set_ i b, h.low, h.nq, h.no, h.nd⟩
theorem DW.drew (h : DW w2 wr q m1 m2 n tv its out ks D ds) : DW w2 wr.drew q m1 m2 n tv its out ks D ds := h.grow ((RowKit.Below.refl _ _).drew)
theorem DW.bel (h : DW w2 wr q m1 m2 n tv its out ks D ds) : RowKit.Below w2.heap.size w2 wr := h.kw.a.bel
end
theorem DW.made {w2 wr : World} {q m1 m2 n : Nat} {tv out : Value} {its : List QItem} {ks : List Cmd} (h : KW w2 wr q m1 m2 n tv its out ks) (N : Nat) : DW w2 (wr.alloc (.cells (madeCells #[.bool false] N) 4)) q m1 m2 n tv its out ks wr.heap.size (List.replicate N false) :=
  ⟨h.grow (below_box wr _ 4), boolRow_made wr N, h.a.bel.size, fun hq => by have := qf_lt h.a.qa hq; omega, fun e => by have := (h.k.own.lt _ e).2; omega, fun x hx b o hl e hb => by have := dat_lt (h.a.qa.ok x hx).1.dat hl e; omega⟩

/-- What holds between two picks. -/
def Ord (w2 wr : World) (q m1 m2 n : Nat) (tv : Value) (its : List QItem) (out : Value) (ks : List Cmd) (D : Nat) (ds : List Bool) : Prop :=
  DW w2 wr q m1 m2 n tv its out ks D ds ∧ Rel its ks ds

set_option maxHeartbeats 4000000 in
theorem queueOrder_walk (la sa : Option Addr) (lc sc : Nat) (ls : List Cmd) (ss : List Nat) (w : World) (h : Cmds w la ls) (hss : BytesAt w sa ss ∧ ∀ x ∈ ss, x ≤ 255) (hm : (ls.length : Int) ≤ 17592186044416) (hms : (ss.length : Int) ≤ 140737488355328) :
    Calls Tryd.prog 13 #[.slice la ls.length lc, .slice sa ss.length sc] w fun e w' => e = .returned (.bool true) ∧ RowKit.Below w.heap.size w w' := by
  have HH := Lib.hid h
  have HSS := Lib.hid hss
  clear h hss
  go_enter Tryd.func13, Tryd.ntmps13
  go_wp2_with fail
  refine (awake41_any _).mono ?_
  rintro e w1 ⟨rfl, hB1⟩
  by_cases g30 : (30 : Int) < (ls.length : Int)
  · go_wp2_with fail
    go_ret
    exact ⟨rfl, hB1⟩
  · by_cases g100 : (100 : Int) < (ss.length : Int)
    · go_wp2_with fail
      go_ret
      exact ⟨rfl, hB1⟩
    · have HA := Lib.hid (HH.out.mono hB1)
      have HSA := Lib.hid (HSS.out.1.mono hB1)
      go_wp2_with fail
      refine (AW.new _).mono ?_
      rintro e w3 ⟨q, m1, m2, rfl, h3⟩
      have K0 := Lib.hid (KW.new h3)
      clear h3
      go_wp2_with fail
      go_loopg [6, 8, 34] (ls.length) (fun g out _ i wr => ∃ k n tv its ks, k ≤ ls.length ∧ g = ls.length - k ∧ i = .int .i64 (k : Nat) ∧ n ≤ k ∧ its.length ≤ k ∧ ks.length ≤ k ∧ KW w1 wr q m1 m2 n tv its out ks ∧ All its ks)
      case atStart => exact ⟨0, 0, _, [], [], Nat.zero_le _, by simp, rfl, Nat.le_refl _, Nat.le_refl _, Nat.le_refl _, K0.out, rfl, List.nodup_nil⟩
      case round =>
        obtain ⟨k, n, tv, its, ks, hk, rfl, rfl, hn, hil, hkl, hK, hAll⟩ := hrel
        have HK := Lib.hid hK
        have HAll := Lib.hid hAll
        have hB1r := hK.a.bel
        have hBr := hB1.trans (hB1r.mono hB1.size)
        obtain ⟨oa, oc, rfl, _⟩ := hK.k.cmds
        clear hK hAll
        by_cases hkk : k < ls.length
        · obtain ⟨x, hx⟩ : ∃ x, ls[k]? = some x := ⟨_, List.getElem?_eq_getElem hkk⟩
          obtain ⟨b, o, rfl, hcs⟩ := HA.out.2 (by omega)
          obtain ⟨t0, t1, t2, t3, t4, t5, t6, t7, t8⟩ := (hcs k x hx).mono hB1r
          have HX := Lib.hid (HA.out.1 k x hx)
          have hb4 := below_box wr x.arr 24
          have hB4 := hBr.trans (hb4.mono hBr.size)
          have v1 := HX.out.vs
          have v2 := HX.out.os
          have v3 := HX.out.len
          clear hcs hx
          by_cases g1 : (100 : Int) < (x.bs.length : Int)
          · go_wp2_with fail
            go_ret
            exact ⟨rfl, hB4⟩
          · by_cases g2 : (100 : Int) < (x.vol.size : Int)
            · go_wp2_with fail
              go_ret
              exact ⟨rfl, hB4⟩
            · by_cases g3 : (100 : Int) < (x.oth.size : Int)
              · go_wp2_with fail
                go_ret
                exact ⟨rfl, hB4⟩
              · have K4 := Lib.hid (HK.out.grow hb4)
                have HDL : Hid (∀ b o, 0 < x.bs.length → x.da = some ⟨b, o, none⟩ → b < w1.heap.size) := fun b o hl e => dat_lt HX.out.dat hl e
                have M4 : Hid ((wr.alloc (.cells x.arr 24)).heap[wr.heap.size]? = some (.cells x.arr 24 (0, 0))) := heap_alloc_new wr _
                have CS := Lib.hid (submit_any K4.out.a.qa x ((HX.out.mono hB1r).mono hb4) (fun b o hl e hq => by
                  have h1 := HDL.out b o hl e
                  have h2 := HK.out.a.low b hq
                  omega) (by omega) (by omega))
                have hnwr : ¬ QF q m1 m2 tv wr.heap.size := fun hq => by have := qf_lt HK.out.a.qa hq; omega
                go_wp2_with fail
                refine CS.out.mono ?_
                rintro e w5 ⟨he, ht, hz0, hz1⟩
                clear t0 t1 t2 t3 t4 t5 t6 t7 t8
                have M5 : Hid (w5.heap[wr.heap.size]? = some (.cells x.arr 24 (0, 0))) := ht.heap M4.out hnwr
                by_cases hs : submitE its x = 0
                · rw [hs] at he
                  subst he
                  obtain ⟨da, dc, tv', hq, hF, hfr⟩ := hz1 hs
                  have hK5 := K4.out.stepQ ht hq hF (fun y hy => by
                    rw [List.mem_append] at hy
                    rcases hy with hy | hy
                    · exact Or.inl ⟨y, hy, rfl⟩
                    · rw [List.mem_singleton] at hy
                      subst hy
                      exact Or.inr hfr)
                  have K5 := Lib.hid hK5
                  have A5 := Lib.hid (HAll.out.push x da dc (submit_has hs))
                  have hB15 := hK5.a.bel
                  have X5 := Lib.hid (HX.out.mono hB15)
                  have hoo : Hid (∀ b o, 0 < x.bs.length → x.da = some ⟨b, o, none⟩ → (Value.slice oa ks.length oc).ownBlock ≠ some b) := fun b o hl e hb => by
                    have h1 := HDL.out b o hl e
                    have h2 := (hK5.k.own.lt b hb).1
                    omega
                  obtain ⟨t0, t1, t2, t3, t4, t5, t6, t7, t8⟩ := boxCells M5.out
                  simp only [Nat.zero_add] at t1 t2 t3 t4 t5 t6 t7 t8
                  clear ht hz0 hz1 hs hq hF hfr hK5 CS
                  go_wp2_with (at_builtin; refine wpList_append_cmd K5.out.k x X5.out hoo.out (by omega) rfl _ _ rfl rfl w5.heap.size rfl rfl ?_)
                  intro v' w6 hO' hv' hT'
                  have K6 := Lib.hid (K5.out.stepK hT' hO' hv' HDL.out)
                  have hl6 : (its ++ [(x.re da dc, false)]).length ≤ k + 1 := by simp; omega
                  have hl7 : (ks ++ [x]).length ≤ k + 1 := by simp; omega
                  clear hO' hv' hT' t0 t1 t2 t3 t4 t5 t6 t7 t8
                  go_wp2
                  go_roundg (ls.length - (k + 1))
                  case measure => omega
                  case rel => exact ⟨k + 1, n + 1, tv', _, _, by omega, rfl, by go_num, by omega, hl6, hl7, K6.out, A5.out⟩
                · obtain ⟨E, hE⟩ : ∃ E, submitE its x = E := ⟨_, rfl⟩
                  have K5 := Lib.hid (K4.out.stepQ ht (hz0 hs) (fun k hk => Or.inl hk) (fun y hy => Or.inl ⟨y, hy, rfl⟩))
                  rw [hE] at he hs
                  subst he
                  have hs2 : (E == 0) = false := by simpa using hs
                  clear ht hz0 hz1 hE CS hs
                  go_wp2
                  go_roundg (ls.length - (k + 1))
                  case measure => omega
                  case rel => exact ⟨k + 1, n, tv, its, ks, by omega, rfl, by go_num, by omega, by omega, by omega, K5.out, HAll.out⟩
        · have hmk := run_makeBools ks.length (by omega)
          have D0 := Lib.hid (DW.made HK.out ks.length)
          have R0 := Lib.hid (Rel.all HAll.out.1)
          have HN := Lib.hid HAll.out.2
          have hk31 : ks.length ≤ 30 := by omega
          have hi31 : its.length ≤ 30 := by omega
          have hn31 : n ≤ 30 := by omega
          generalize hD : wr.heap.size = D at D0
          have HD := Lib.hid hD
          clear hD
          go_wp2_with fail
          rw [HD.out]
          go_loopg [11, 12, 13, 14, 15, 16, 17, 18, 19, 20, 68] (ss.length) (fun g _ _ _ _ _ _ _ _ _ _ i wx => ∃ j n' tv' its' ds, j ≤ ss.length ∧ g = ss.length - j ∧ i = .int .i64 (j : Nat) ∧ n' ≤ 30 + j ∧ its'.length ≤ 30 ∧ DW w1 wx q m1 m2 n' tv' its' (.slice oa ks.length oc) ks D ds ∧ Rel its' ks ds)
          case atStart => exact ⟨0, n, tv, its, _, Nat.zero_le _, by simp, rfl, by omega, hi31, D0.out, R0.out⟩
          case round =>
            obtain ⟨j, n', tv', its', ds, hj, rfl, rfl, hn', hi', hDW, hRel⟩ := hrel
            have HDW := Lib.hid hDW
            have HREL := Lib.hid hRel
            have hbx := hDW.bel
            have hBx := hB1.trans (hbx.mono hB1.size)
            clear hDW hRel
            by_cases hjl : j < ss.length
            · obtain ⟨z, hz⟩ : ∃ z, ss[j]? = some z := ⟨_, List.getElem?_eq_getElem hjl⟩
              obtain ⟨sb, so, rfl, hsc⟩ := HSA.out (by omega)
              have gz := cell_keep hbx (hsc j z hz)
              have hz255 : z ≤ 255 := HSS.out.2 z (List.mem_of_getElem? hz)
              have CE := Lib.hid (eligible_any HDW.out.kw.a.qa (by omega))
              clear hsc hz
              go_wp2_with fail
              refine CE.out.mono ?_
              rintro e w5 ⟨a5, c5, rfl, hI5, hb5⟩
              have D5 := Lib.hid (HDW.out.grow hb5)
              have CS := Lib.hid (started_any D5.out.kw.a.qa (by omega))
              clear CE gz
              go_wp2_with fail
              refine CS.out.mono ?_
              rintro e w6 ⟨a6, c6, rfl, hI6, hb6⟩
              have D6 := Lib.hid (D5.out.grow hb6)
              have HI5 := Lib.hid (hI5.mono hb6)
              have HI6 := Lib.hid hI6
              have HEM : Hid (∀ t ∈ eligTags its', t ∈ eligTags its') := fun t ht => ht
              have HTM : Hid (∀ t ∈ startedOf its', t ∈ startedOf its') := fun t ht => ht
              have hel : (eligTags its').length ≤ 30 := Nat.le_trans (eligTags_len its') hi'
              have htl0 : (startedOf its').length ≤ its'.length := by unfold startedOf; rw [List.length_map]; exact List.length_filter_le _ _
              have htl : (startedOf its').length ≤ 30 := Nat.le_trans htl0 hi'
              have hB6 := D6.out.bel
              clear CS hI5 hI6 htl0
              generalize hes : eligTags its' = es at HI5 hel
              generalize hts : startedOf its' = ts at HI6 htl
              have HES := Lib.hid hes
              have HTS := Lib.hid hts
              clear hes hts HEM HTM
              have hmod2 : Int.tmod (z : Int) 2 = ((z % 2 : Nat) : Int) := by rw [Int.tmod_eq_emod_of_nonneg (Int.natCast_nonneg z)]; simp
              have hdiv2 : Int.tdiv (z : Int) 2 = ((z / 2 : Nat) : Int) := by rw [Int.tdiv_eq_ediv_of_nonneg (Int.natCast_nonneg z)]; simp
              have hp2 : z % 2 < 2 := Nat.mod_lt _ (by decide)
              have hd2 : z / 2 ≤ 127 := by omega
              generalize z % 2 = p at hmod2 hp2
              generalize z / 2 = d at hdiv2 hd2
              by_cases hp : p = 1
              · subst hp
                by_cases htp : 0 < ts.length
                · have htz : (0 : Int) < (ts.length : Int) := by omega
                  have hmodT : Int.tmod (d : Int) (ts.length : Int) = ((d % ts.length : Nat) : Int) := by rw [Int.tmod_eq_emod_of_nonneg (Int.natCast_nonneg d)]; simp
                  have hjT : d % ts.length < ts.length := Nat.mod_lt _ htp
                  obtain ⟨t, ht⟩ : ∃ t, ts[d % ts.length]? = some t := ⟨_, List.getElem?_eq_getElem hjT⟩
                  obtain ⟨tb, to', rfl, htc⟩ := HI6.out htp
                  have gt := htc _ t ht
                  have HTI : Hid (t ∈ startedOf its') := by show t ∈ _; rw [HTS.out]; exact List.mem_of_getElem? ht
                  have HRE : Hid (removeE its' t true = 0) := finish_ok HTI.out
                  have hwf : (Lit.int .i64 t).wf = true := by
                    have h1 := HTI.out
                    unfold startedOf at h1
                    rw [List.mem_map] at h1
                    obtain ⟨y, hy, rfl⟩ := h1
                    exact (D6.out.kw.a.qa.ok y (List.mem_filter.1 hy).1).2
                  have CF := Lib.hid (finish_any D6.out.kw.a.qa hwf (by omega))
                  generalize d % ts.length = jt at hmodT hjT gt
                  clear ht htc
                  go_wp2_with fail
                  refine CF.out.mono ?_
                  rintro e w7 ⟨he, hT, _, hy⟩
                  rw [HRE.out] at he
                  subst he
                  obtain ⟨tv7, hq7, hF7⟩ := hy HRE.out
                  have hD7 := D6.out.stepQ hT hq7 hF7 (fun x hx => ⟨x, mem_removed hx, rfl⟩)
                  have D7 : Hid (DW w1 w7 q m1 m2 n' tv7 (removed its' t) (.slice oa ks.length oc) ks D (updTo ks ds t 0)) := by show DW _ _ _ _ _ _ _ _ _ _ _ _; rw [updTo_zero]; exact hD7
                  have R7 := Lib.hid (HREL.out.finish t)
                  have hrl : (removed its' t).length ≤ 30 := Nat.le_trans (List.length_filter_le _ _) hi'
                  have HDL := Lib.hid HREL.out.len
                  clear hT hy hq7 hF7 hD7 CF gt
                  go_wp2_with fail
                  go_loopg [15, 16, 99] (ks.length) (fun g _ _ i wy => ∃ m, m ≤ ks.length ∧ g = ks.length - m ∧ i = .int .i64 (m : Nat) ∧ DW w1 wy q m1 m2 n' tv7 (removed its' t) (.slice oa ks.length oc) ks D (updTo ks ds t m))
                  case atStart => exact ⟨0, Nat.zero_le _, by simp, rfl, D7.out⟩
                  case round =>
                    obtain ⟨m, hm2, rfl, rfl, hDm⟩ := hrel
                    have DM := Lib.hid hDm
                    clear hDm
                    by_cases hml : m < ks.length
                    · obtain ⟨c, hc⟩ : ∃ c, ks[m]? = some c := ⟨_, List.getElem?_eq_getElem hml⟩
                      obtain ⟨bb, hbb⟩ : ∃ bb, ds[m]? = some bb := ⟨_, List.getElem?_eq_getElem (by rw [HDL.out]; exact hml)⟩
                      obtain ⟨oa', oc', hoe, hcm⟩ := DM.out.kw.k.cmds
                      injection hoe with hoa _ hoc
                      subst hoa
                      subst hoc
                      obtain ⟨cb, co, rfl, hcc⟩ := hcm.2 (by omega)
                      obtain ⟨t0, t1, t2, t3, t4, t5, t6, t7, t8⟩ := hcc m c hc
                      have gD : wr.cell? ⟨D, m, none⟩ = some (.bool bb) := DM.out.row.cell (updTo_at HDL.out hml hbb)
                      have hDlt := DM.out.row.lt
                      have hb9 := below_box wr c.arr 24
                      have fD : (wr.alloc (.cells #[.int .i64 c.tag, .int .i64 c.kind, .int .i64 c.ord, .bool c.force, .string c.vol, .string c.oth, .int .i64 c.pos, .int .i64 c.len, .slice c.da c.bs.length c.dc] 24)).frozen? ⟨D, m, none⟩ = false := (DM.out.row.mono hb9).free m
                      have DN := Lib.hid ((DM.out.set_ m (bb || c.tag == t)).grow (below_box _ c.arr 24))
                      have HUP := Lib.hid (updTo_succ (t := t) HDL.out hc hbb)
                      have hDml : m < (updTo ks ds t m).length := by rw [updTo_len HDL.out (by omega)]; exact hml
                      have HLEN : Hid ((updTo ks ds t m).length = ks.length) := updTo_len HDL.out (by omega)
                      clear hcc hc hbb hcm hb9
                      cases bb
                      all_goals
                        go_wp2_with fail
                        go_roundg (ks.length - (m + 1))
                        case measure => omega
                        case rel =>
                          have hDN := DN.out
                          rw [HUP.out] at hDN
                          simp only [Bool.false_or, Bool.true_or] at hDN
                          exact ⟨m + 1, by omega, rfl, by go_num, hDN⟩
                    · have hmk : m = ks.length := by omega
                      have DE : Hid (DW w1 wr q m1 m2 n' tv7 (removed its' t) (.slice oa ks.length oc) ks D (List.zipWith (fun c d => d || c.tag == t) ks ds)) := by
                        show DW _ _ _ _ _ _ _ _ _ _ _ _
                        have := DM.out
                        rwa [hmk, updTo_all HDL.out] at this
                      clear hmk
                      go_wp2
                      go_roundg (ss.length - (j + 1))
                      case measure => omega
                      case rel => exact ⟨j + 1, n', tv7, _, _, by omega, rfl, by go_num, by omega, hrl, DE.out, R7.out⟩
                · have htz : ¬ (0 : Int) < (ts.length : Int) := by omega
                  have htz2 : (ts.length : Int) ≤ 0 := by omega
                  by_cases hep : 0 < es.length
                  · have hez : ((es.length : Int) == 0) = false := beq_eq_false_iff_ne.2 (by omega)
                    have hezn : ¬ (es.length : Int) = 0 := by omega
                    have hmodT : Int.tmod (d : Int) (es.length : Int) = ((d % es.length : Nat) : Int) := by rw [Int.tmod_eq_emod_of_nonneg (Int.natCast_nonneg d)]; simp
                    have hjT : d % es.length < es.length := Nat.mod_lt _ hep
                    obtain ⟨t, ht⟩ : ∃ t, es[d % es.length]? = some t := ⟨_, List.getElem?_eq_getElem hjT⟩
                    obtain ⟨tb, to', rfl, htc⟩ := HI5.out hep
                    have gt := htc _ t ht
                    have HTI : Hid (t ∈ eligTags its') := by show t ∈ _; rw [HES.out]; exact List.mem_of_getElem? ht
                    have HRE : Hid (startE its' t = 0) := start_ok HTI.out
                    have hwf : (Lit.int .i64 t).wf = true := by
                      obtain ⟨L, y, R, e, hyt, _, _⟩ := mem_eligTags.1 HTI.out
                      rw [← hyt]
                      exact (D6.out.kw.a.qa.ok y (by rw [e]; simp)).2
                    have CF := Lib.hid (start_any D6.out.kw.a.qa hwf (by omega) (by omega))
                    generalize d % es.length = jt at hmodT hjT gt
                    clear ht htc
                    go_wp2_with fail
                    refine CF.out.mono ?_
                    rintro e w7 ⟨he, hT, _, hy⟩
                    rw [HRE.out] at he
                    subst he
                    have D7 := Lib.hid (D6.out.stepQ hT (hy HRE.out) (fun k hk => Or.inl hk) (fun x hx => mem_setSt hx))
                    have R7 := Lib.hid (HREL.out.start t)
                    have hrl : (setSt its' t).length ≤ 30 := by unfold setSt; rw [List.length_map]; exact hi'
                    have HDL := Lib.hid HREL.out.len
                    clear hT hy CF gt
                    go_wp2_with fail
                    go_loopg [18, 19, 20, 136, 146] (ks.length) (fun g _ _ _ i _ wy => ∃ m, m ≤ ks.length ∧ g = ks.length - m ∧ i = .int .i64 (m : Nat) ∧ RowKit.Below w7.heap.size w7 wy)
                    case atStart => exact ⟨0, Nat.zero_le _, by simp, rfl, RowKit.Below.refl _ _⟩
                    case round =>
                      obtain ⟨m, hm2, rfl, rfl, hbm⟩ := hrel
                      obtain ⟨wy, hwy⟩ : ∃ wy, wy = wr := ⟨_, rfl⟩
                      subst hwy
                      have DM := Lib.hid (D7.out.grow hbm)
                      by_cases hml : m < ks.length
                      · obtain ⟨c, hc⟩ : ∃ c, ks[m]? = some c := ⟨_, List.getElem?_eq_getElem hml⟩
                        obtain ⟨oa', oc', hoe, hcm⟩ := DM.out.kw.k.cmds
                        injection hoe with hoa _ hoc
                        subst hoa
                        subst hoc
                        obtain ⟨cb, co, rfl, hcc⟩ := hcm.2 (by omega)
                        obtain ⟨t0, t1, t2, t3, t4, t5, t6, t7, t8⟩ := hcc m c hc
                        have hb9 := below_box wy c.arr 24
                        have hb79 := hbm.trans (hb9.mono hbm.size)
                        have HC := Lib.hid hc
                        have HCC := Lib.hid hcm
                        have HCA := Lib.hid hcc
                        clear hc hcm hcc
                        by_cases hct : c.tag = t
                        · have hcb : (c.tag != t) = false := by simp [hct]
                          have HCT := Lib.hid hct
                          have MA : Hid ((wy.alloc (.cells #[.int .i64 c.tag, .int .i64 c.kind, .int .i64 c.ord, .bool c.force, .string c.vol, .string c.oth, .int .i64 c.pos, .int .i64 c.len, .slice c.da c.bs.length c.dc] 24)).heap[wy.heap.size]? = some (.cells c.arr 24 (0, 0))) := heap_alloc_new wy _
                          clear hct
                          go_wp2_with fail
                          generalize hwA : wy.alloc (.cells #[.int .i64 c.tag, .int .i64 c.kind, .int .i64 c.ord, .bool c.force, .string c.vol, .string c.oth, .int .i64 c.pos, .int .i64 c.len, .slice c.da c.bs.length c.dc] 24) = wA at hb9 hb79 MA ⊢
                          clear hwA t0 t1 t2 t3 t4 t5 t6 t7 t8
                          go_loopg [20, 146] m (fun g _ i wz => ∃ k2, k2 ≤ m ∧ g = m - k2 ∧ i = .int .i64 (k2 : Nat) ∧ RowKit.Below wA.heap.size wA wz)
                          case atStart => exact ⟨0, Nat.zero_le _, by simp, rfl, RowKit.Below.refl _ _⟩
                          case round =>
                            obtain ⟨k2, hk2, rfl, rfl, hbz⟩ := hrel
                            have hb7z := hb79.trans (hbz.mono hb79.size)
                            by_cases hkl2 : k2 < m
                            · obtain ⟨xd, hxd⟩ : ∃ xd, ks[k2]? = some xd := ⟨_, List.getElem?_eq_getElem (by omega)⟩
                              obtain ⟨bb, hbb⟩ : ∃ bb, ds[k2]? = some bb := ⟨_, List.getElem?_eq_getElem (by rw [HDL.out]; omega)⟩
                              have hbyz := hb9.trans (hbz.mono hb9.size)
                              have gD := cell_regrown ((D7.out.grow hb7z).row.cell hbb)
                              have hDl : k2 < ds.length := by rw [HDL.out]; omega
                              have hkl3 : k2 < ks.length := by omega
                              obtain ⟨s0, s1, s2, s3, s4, s5, s6, s7, s8⟩ := ((HCA.out k2 xd hxd).mono hbyz).grown
                              obtain ⟨t0, t1, t2, t3, t4, t5, t6, t7, t8⟩ := (boxCells (below_heap hbz MA.out)).grown
                              simp only [Nat.zero_add] at t1 t2 t3 t4 t5 t6 t7 t8
                              have ox := (HCC.out.1 k2 xd hxd).mono hbyz
                              have oy := (HCC.out.1 m c HC.out).mono hbyz
                              have hDL2 : ds.length ≤ 30 := by rw [HDL.out]; omega
                              cases bb with
                              | true =>
                                clear hxd hbb ox oy
                                go_wp2_with fail
                                refine wp_region_quiet_below (by kernel_rfl) (by kernel_rfl) ?_
                                repeat (go_big_quiet_step (fail))
                                refine wpQuiet_nil ?_
                                intro _ hw'
                                obtain ⟨⟨dd, os⟩, hw''⟩ := hw'
                                subst hw''
                                have hbz2 : RowKit.Below wA.heap.size wA (grow (redrawn wr dd) os) := hbz.trans ((below_regrown wr dd os).mono hbz.size)
                                generalize grow (redrawn wr dd) os = wv at hbz2 ⊢
                                clear t0 t1 t2 t3 t4 t5 t6 t7 t8 s0 s1 s2 s3 s4 s5 s6 s7 s8 gD
                                go_wp2
                                go_roundg (m - (k2 + 1))
                                case measure => omega
                                case rel => exact ⟨k2 + 1, by omega, rfl, by go_num, hbz2⟩
                              | false =>
                                have HBF : Hid (beforeB xd c = false) := by
                                  obtain ⟨L, y, R, e, hyt, _, hL⟩ := mem_eligTags.1 HTI.out
                                  exact HREL.out.free HN.out e hL HC.out (by rw [HCT.out, hyt]) hkl2 hxd hbb
                                have C20a := reg_below (wr := wr) fun W hW => refBefore_any xd c W (ox.mono hW) (oy.mono hW)
                                rw [HBF.out] at C20a
                                have C20 := Lib.hid C20a
                                clear C20a hxd hbb ox oy
                                go_wp2_with fail
                                refine wp_region_quiet_below (by kernel_rfl) (by kernel_rfl) ?_
                                repeat (go_big_quiet_step ((go_at_call 20; exact C20.out _ _)))
                                refine wpQuiet_nil ?_
                                intro _ hw'
                                obtain ⟨⟨dd, os⟩, hw''⟩ := hw'
                                subst hw''
                                have hbz2 : RowKit.Below wA.heap.size wA (grow (redrawn wr dd) os) := hbz.trans ((below_regrown wr dd os).mono hbz.size)
                                generalize grow (redrawn wr dd) os = wv at hbz2 ⊢
                                clear t0 t1 t2 t3 t4 t5 t6 t7 t8 s0 s1 s2 s3 s4 s5 s6 s7 s8 gD
                                go_wp2
                                go_roundg (m - (k2 + 1))
                                case measure => omega
                                case rel => exact ⟨k2 + 1, by omega, rfl, by go_num, hbz2⟩
                            · go_wp2
                              go_roundg (ks.length - (m + 1))
                              case measure => omega
                              case rel => exact ⟨m + 1, by omega, rfl, by go_num, hb7z⟩
                        · have hcb : (c.tag != t) = true := by simp [hct]
                          clear hct
                          go_wp2_with fail
                          go_roundg (ks.length - (m + 1))
                          case measure => omega
                          case rel => exact ⟨m + 1, by omega, rfl, by go_num, hb79⟩
                      · go_wp2
                        go_roundg (ss.length - (j + 1))
                        case measure => omega
                        case rel => exact ⟨j + 1, n' + 1, tv', _, ds, by omega, rfl, by go_num, by omega, hrl, DM.out, R7.out⟩
                  · have hez : es.length = 0 := by omega
                    have HEZ := Lib.hid hez
                    have hez2 : ((es.length : Int) == 0) = true := by rw [hez]; rfl
                    clear hez
                    go_wp2_with fail
                    go_roundg (ss.length - (j + 1))
                    case measure => omega
                    case rel => exact ⟨j + 1, n', tv', its', ds, by omega, rfl, by go_num, by omega, hi', D6.out, HREL.out⟩
              · have hpb : ((p : Int) == 1) = false := beq_eq_false_iff_ne.2 (by omega)
                have hpn : ¬ (p : Int) = 1 := by omega
                by_cases hep : 0 < es.length
                · have hez : ((es.length : Int) == 0) = false := beq_eq_false_iff_ne.2 (by omega)
                  have hezn : ¬ (es.length : Int) = 0 := by omega
                  have hmodT : Int.tmod (d : Int) (es.length : Int) = ((d % es.length : Nat) : Int) := by rw [Int.tmod_eq_emod_of_nonneg (Int.natCast_nonneg d)]; simp
                  have hjT : d % es.length < es.length := Nat.mod_lt _ hep
                  obtain ⟨t, ht⟩ : ∃ t, es[d % es.length]? = some t := ⟨_, List.getElem?_eq_getElem hjT⟩
                  obtain ⟨tb, to', rfl, htc⟩ := HI5.out hep
                  have gt := htc _ t ht
                  have HTI : Hid (t ∈ eligTags its') := by show t ∈ _; rw [HES.out]; exact List.mem_of_getElem? ht
                  have HRE : Hid (startE its' t = 0) := start_ok HTI.out
                  have hwf : (Lit.int .i64 t).wf = true := by
                    obtain ⟨L, y, R, e, hyt, _, _⟩ := mem_eligTags.1 HTI.out
                    rw [← hyt]
                    exact (D6.out.kw.a.qa.ok y (by rw [e]; simp)).2
                  have CF := Lib.hid (start_any D6.out.kw.a.qa hwf (by omega) (by omega))
                  generalize d % es.length = jt at hmodT hjT gt
                  clear ht htc
                  go_wp2_with fail
                  refine CF.out.mono ?_
                  rintro e w7 ⟨he, hT, _, hy⟩
                  rw [HRE.out] at he
                  subst he
                  have D7 := Lib.hid (D6.out.stepQ hT (hy HRE.out) (fun k hk => Or.inl hk) (fun x hx => mem_setSt hx))
                  have R7 := Lib.hid (HREL.out.start t)
                  have hrl : (setSt its' t).length ≤ 30 := by unfold setSt; rw [List.length_map]; exact hi'
                  have HDL := Lib.hid HREL.out.len
                  clear hT hy CF gt
                  go_wp2_with fail
                  go_loopg [18, 19, 20, 136, 146] (ks.length) (fun g _ _ _ i _ wy => ∃ m, m ≤ ks.length ∧ g = ks.length - m ∧ i = .int .i64 (m : Nat) ∧ RowKit.Below w7.heap.size w7 wy)
                  case atStart => exact ⟨0, Nat.zero_le _, by simp, rfl, RowKit.Below.refl _ _⟩
                  case round =>
                    obtain ⟨m, hm2, rfl, rfl, hbm⟩ := hrel
                    obtain ⟨wy, hwy⟩ : ∃ wy, wy = wr := ⟨_, rfl⟩
                    subst hwy
                    have DM := Lib.hid (D7.out.grow hbm)
                    by_cases hml : m < ks.length
                    · obtain ⟨c, hc⟩ : ∃ c, ks[m]? = some c := ⟨_, List.getElem?_eq_getElem hml⟩
                      obtain ⟨oa', oc', hoe, hcm⟩ := DM.out.kw.k.cmds
                      injection hoe with hoa _ hoc
                      subst hoa
                      subst hoc
                      obtain ⟨cb, co, rfl, hcc⟩ := hcm.2 (by omega)
                      obtain ⟨t0, t1, t2, t3, t4, t5, t6, t7, t8⟩ := hcc m c hc
                      have hb9 := below_box wy c.arr 24
                      have hb79 := hbm.trans (hb9.mono hbm.size)
                      have HC := Lib.hid hc
                      have HCC := Lib.hid hcm
                      have HCA := Lib.hid hcc
                      clear hc hcm hcc
                      by_cases hct : c.tag = t
                      · have hcb : (c.tag != t) = false := by simp [hct]
                        have HCT := Lib.hid hct
                        have MA : Hid ((wy.alloc (.cells #[.int .i64 c.tag, .int .i64 c.kind, .int .i64 c.ord, .bool c.force, .string c.vol, .string c.oth, .int .i64 c.pos, .int .i64 c.len, .slice c.da c.bs.length c.dc] 24)).heap[wy.heap.size]? = some (.cells c.arr 24 (0, 0))) := heap_alloc_new wy _
                        clear hct
                        go_wp2_with fail
                        generalize hwA : wy.alloc (.cells #[.int .i64 c.tag, .int .i64 c.kind, .int .i64 c.ord, .bool c.force, .string c.vol, .string c.oth, .int .i64 c.pos, .int .i64 c.len, .slice c.da c.bs.length c.dc] 24) = wA at hb9 hb79 MA ⊢
                        clear hwA t0 t1 t2 t3 t4 t5 t6 t7 t8
                        go_loopg [20, 146] m (fun g _ i wz => ∃ k2, k2 ≤ m ∧ g = m - k2 ∧ i = .int .i64 (k2 : Nat) ∧ RowKit.Below wA.heap.size wA wz)
                        case atStart => exact ⟨0, Nat.zero_le _, by simp, rfl, RowKit.Below.refl _ _⟩
                        case round =>
                          obtain ⟨k2, hk2, rfl, rfl, hbz⟩ := hrel
                          have hb7z := hb79.trans (hbz.mono hb79.size)
                          by_cases hkl2 : k2 < m
                          · obtain ⟨xd, hxd⟩ : ∃ xd, ks[k2]? = some xd := ⟨_, List.getElem?_eq_getElem (by omega)⟩
                            obtain ⟨bb, hbb⟩ : ∃ bb, ds[k2]? = some bb := ⟨_, List.getElem?_eq_getElem (by rw [HDL.out]; omega)⟩
                            have hbyz := hb9.trans (hbz.mono hb9.size)
                            have gD := cell_regrown ((D7.out.grow hb7z).row.cell hbb)
                            have hDl : k2 < ds.length := by rw [HDL.out]; omega
                            have hkl3 : k2 < ks.length := by omega
                            obtain ⟨s0, s1, s2, s3, s4, s5, s6, s7, s8⟩ := ((HCA.out k2 xd hxd).mono hbyz).grown
                            obtain ⟨t0, t1, t2, t3, t4, t5, t6, t7, t8⟩ := (boxCells (below_heap hbz MA.out)).grown
                            simp only [Nat.zero_add] at t1 t2 t3 t4 t5 t6 t7 t8
                            have ox := (HCC.out.1 k2 xd hxd).mono hbyz
                            have oy := (HCC.out.1 m c HC.out).mono hbyz
                            have hDL2 : ds.length ≤ 30 := by rw [HDL.out]; omega
                            cases bb with
                            | true =>
                              clear hxd hbb ox oy
                              go_wp2_with fail
                              refine wp_region_quiet_below (by kernel_rfl) (by kernel_rfl) ?_
                              repeat (go_big_quiet_step (fail))
                              refine wpQuiet_nil ?_
                              intro _ hw'
                              obtain ⟨⟨dd, os⟩, hw''⟩ := hw'
                              subst hw''
                              have hbz2 : RowKit.Below wA.heap.size wA (grow (redrawn wr dd) os) := hbz.trans ((below_regrown wr dd os).mono hbz.size)
                              generalize grow (redrawn wr dd) os = wv at hbz2 ⊢
                              clear t0 t1 t2 t3 t4 t5 t6 t7 t8 s0 s1 s2 s3 s4 s5 s6 s7 s8 gD
                              go_wp2
                              go_roundg (m - (k2 + 1))
                              case measure => omega
                              case rel => exact ⟨k2 + 1, by omega, rfl, by go_num, hbz2⟩
                            | false =>
                              have HBF : Hid (beforeB xd c = false) := by
                                obtain ⟨L, y, R, e, hyt, _, hL⟩ := mem_eligTags.1 HTI.out
                                exact HREL.out.free HN.out e hL HC.out (by rw [HCT.out, hyt]) hkl2 hxd hbb
                              have C20a := reg_below (wr := wr) fun W hW => refBefore_any xd c W (ox.mono hW) (oy.mono hW)
                              rw [HBF.out] at C20a
                              have C20 := Lib.hid C20a
                              clear C20a hxd hbb ox oy
                              go_wp2_with fail
                              refine wp_region_quiet_below (by kernel_rfl) (by kernel_rfl) ?_
                              repeat (go_big_quiet_step ((go_at_call 20; exact C20.out _ _)))
                              refine wpQuiet_nil ?_
                              intro _ hw'
                              obtain ⟨⟨dd, os⟩, hw''⟩ := hw'
                              subst hw''
                              have hbz2 : RowKit.Below wA.heap.size wA (grow (redrawn wr dd) os) := hbz.trans ((below_regrown wr dd os).mono hbz.size)
                              generalize grow (redrawn wr dd) os = wv at hbz2 ⊢
                              clear t0 t1 t2 t3 t4 t5 t6 t7 t8 s0 s1 s2 s3 s4 s5 s6 s7 s8 gD
                              go_wp2
                              go_roundg (m - (k2 + 1))
                              case measure => omega
                              case rel => exact ⟨k2 + 1, by omega, rfl, by go_num, hbz2⟩
                          · go_wp2
                            go_roundg (ks.length - (m + 1))
                            case measure => omega
                            case rel => exact ⟨m + 1, by omega, rfl, by go_num, hb7z⟩
                      · have hcb : (c.tag != t) = true := by simp [hct]
                        clear hct
                        go_wp2_with fail
                        go_roundg (ks.length - (m + 1))
                        case measure => omega
                        case rel => exact ⟨m + 1, by omega, rfl, by go_num, hb79⟩
                    · go_wp2
                      go_roundg (ss.length - (j + 1))
                      case measure => omega
                      case rel => exact ⟨j + 1, n' + 1, tv', _, ds, by omega, rfl, by go_num, by omega, hrl, DM.out, R7.out⟩
                · have hez : es.length = 0 := by omega
                  have HEZ := Lib.hid hez
                  have hez2 : ((es.length : Int) == 0) = true := by rw [hez]; rfl
                  clear hez
                  go_wp2_with fail
                  go_roundg (ss.length - (j + 1))
                  case measure => omega
                  case rel => exact ⟨j + 1, n', tv', its', ds, by omega, rfl, by go_num, by omega, hi', D6.out, HREL.out⟩
            · go_wp2_with fail
              go_ret
              exact ⟨rfl, hBx⟩
end Go.Proofs.YtfbafjlhdbjgoaaDoor
