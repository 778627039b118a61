/- The walk of QueueLive. -/
import Derived.Test.YtfbafjlhdbjgoaaDoorR11
import Derived.Test.YtfbafjlhdbjgoaaDoorP1
import Derived.Test.YtfbafjlhdbjgoaaDoorK1
namespace Go.Proofs.YtfbafjlhdbjgoaaDoor
set_option linter.unusedVariables false
set_option linter.unusedSimpArgs false
open Go.RowKit Go.Sort
set_option maxRecDepth 100000

theorem getSt {w : World} {q m1 m2 n : Nat} {tv : Value} {its : List QItem} (h : QAt w q m1 m2 n tv its) {x : QItem} (hx : x ∈ its) :
    Calls Tryd.prog 34 #[.pointer (some ⟨q, 0, none⟩), .int .i64 x.1.tag] w fun e w' => (∃ c : Cmd, e = .returned (.tuple #[c.val, .bool true]) ∧ CmdOk w' c ∧ (∀ b o, c.da = some ⟨b, o, none⟩ → w.heap.size ≤ b) ∧ ∃ da dc, c = x.1.re da dc) ∧ RowKit.Below w.heap.size w w' := by
  refine (get_any h (h.ok x hx).2).mono ?_
  rintro e w' ⟨hp, hb⟩
  unfold GetPost at hp
  rw [find_of h.nod hx] at hp
  obtain ⟨da, dc, h1, h2, h3, _⟩ := hp
  exact ⟨⟨x.1.re da dc, h1, h2, h3, da, dc, rfl⟩, hb⟩
/-- A slice of numbers of a named length. -/
theorem RetInts.named {f : Nat} {args : Array Value} {w : World} {xs : List Int} {M : Nat} (h : Calls Tryd.prog f args w fun e w' => RetInts xs w e w') (hM : xs.length = M) :
    Calls Tryd.prog f args w fun e w' => ∃ a c, e = .returned (.slice a M c) ∧ RowKit.Below w.heap.size w w' :=
  h.mono fun e w' ⟨a, c, h1, _, h3⟩ => ⟨a, c, by rw [h1, hM], h3⟩

set_option maxHeartbeats 4000000 in
theorem queueLive_walk (la : Option Addr) (lc : Nat) (ls : List ActC) (w : World) (h : Acts w la ls) (hm : (ls.length : Int) ≤ 17592186044416) :
    Calls Tryd.prog 6 #[.slice la ls.length lc] w fun e w' => e = .returned (.bool true) ∧ RowKit.Below w.heap.size w w' := by
  have HH := Lib.hid h
  clear h
  go_enter Tryd.func6, Tryd.ntmps6
  go_wp2_with fail
  refine (awake41_any _).mono ?_
  rintro e w1 ⟨rfl, hB1⟩
  go_wp2_with fail
  refine (large_any la lc ls _ (HH.out.mono hB1) hm).mono ?_
  rintro e w2 ⟨⟨lb, rfl, hb⟩, hB2⟩
  have hB02 := hB1.trans (hB2.mono hB1.size)
  cases lb with
  | true =>
    clear hb
    go_wp2_with fail
    go_ret
    exact ⟨rfl, hB02⟩
  | false =>
    have h150 := hb rfl
    have HA2 := Lib.hid (HH.out.mono hB02)
    clear hb
    go_wp2_with fail
    refine (AW.new _).mono ?_
    rintro e w3 ⟨q, m1, m2, rfl, h3⟩
    have P0 := Lib.hid (PW.new h3)
    generalize hR : w3.heap.size = R at P0
    have HR := Lib.hid hR
    clear h3 hR
    go_wp2_with fail
    rw [HR.out]
    go_loopg [6, 23] (ls.length) (fun g _ i wr => ∃ k n tv its sv jts, k ≤ ls.length ∧ g = ls.length - k ∧ i = .int .i64 (k : Nat) ∧ n ≤ k ∧ its.length ≤ k ∧ PW w2 wr q m1 m2 n tv its R sv jts ∧ Eqv its jts ∧ Inv its)
    case atStart => exact ⟨0, 0, _, [], _, [], Nat.zero_le _, by simp, rfl, Nat.le_refl _, Nat.le_refl _, P0.out, eqv_nil, List.Pairwise.nil⟩
    case round =>
      obtain ⟨k, n, tv, its, sv, jts, hk, rfl, rfl, hn, hil, hP, hE, hV⟩ := hrel
      have HP := Lib.hid hP
      have HE := Lib.hid hE
      have HV := Lib.hid hV
      have hB2r := hP.bel
      have hBr := hB02.trans (hB2r.mono hB02.size)
      clear hP hE hV
      by_cases hkl : k < ls.length
      · obtain ⟨x, hx⟩ : ∃ x, ls[k]? = some x := ⟨_, List.getElem?_eq_getElem hkl⟩
        obtain ⟨b, o, rfl, hcs⟩ := HA2.out.2 (by omega)
        obtain ⟨t0, t1, t2, t3, t4, t5, t6, t7, t8, t9, t10⟩ := (hcs k x hx).mono hB2r
        have HX := Lib.hid (HA2.out.1 k x hx)
        have hb4 := below_box wr (actArr x.kind x.K x.c) 44
        have C := Lib.hid (do_any (HP.out.grow hb4) HE.out x.kind x.K x.c HX.out.1 HX.out.2 (by omega) (by omega))
        clear hcs hx hb4
        go_wp2_with fail
        refine C.out.mono ?_
        rintro e w4 ⟨rfl, ⟨n', tv', its', sv', jts', hn', hP4, hE4, hS4⟩, hT4⟩
        have P4 := Lib.hid hP4
        have E4 := Lib.hid hE4
        have V4 : Hid (Inv its') := HV.out.step HP.out.a.qa.nod hS4
        have hl4 := hS4.len
        have hl5 : its'.length ≤ 151 := by omega
        have hsl : (startedOf its').length ≤ its'.length := by unfold startedOf; rw [List.length_map]; exact List.length_filter_le _ _
        have CQT : Hid (∀ W, RowKit.Below w4.heap.size w4 W → Calls Tryd.prog 31 #[.pointer (some ⟨q, 0, none⟩)] W fun e w' => RetInts (tagsOf its') W e w') := fun W hW => tags_any (P4.out.a.qa.grow hW) (by omega)
        have CQS : Hid (∀ W, RowKit.Below w4.heap.size w4 W → Calls Tryd.prog 32 #[.pointer (some ⟨q, 0, none⟩)] W fun e w' => RetInts (startedOf its') W e w') := fun W hW => started_any (P4.out.a.qa.grow hW) (by omega)
        have CQE : Hid (∀ W, RowKit.Below w4.heap.size w4 W → Calls Tryd.prog 33 #[.pointer (some ⟨q, 0, none⟩)] W fun e w' => RetInts (eligTags its') W e w') := fun W hW => eligible_any (P4.out.a.qa.grow hW) (by omega)
        have hr0 := RowKit.Below.refl w4.heap.size w4
        clear hP4 hE4 hS4 hT4 C t0 t1 t2 t3 t4 t5 t6 t7 t8 t9 t10
        cases hlen : (tagsOf its').length with
        | zero =>
          have C31 := Lib.hid (RetInts.named (CQT.out _ hr0) hlen)
          clear hlen
          go_wp2_with fail
          refine C31.out.mono ?_
          rintro e w5 ⟨a5, c5, rfl, hb5⟩
          go_wp2_with fail
          refine (CQS.out _ hb5).mono ?_
          rintro e w6 ⟨a7, c7, rfl, hI7, hb7⟩
          have hb46 := hb5.trans (hb7.mono hb5.size)
          have P6 := Lib.hid (P4.out.grow hb46)
          have HI7 := Lib.hid hI7
          have hSL : (startedOf its').length ≤ 151 := by omega
          clear hI7
          go_wp2_with fail
          go_loopg [7, 50] ((startedOf its').length) (fun g out i wx => ∃ j cs, j ≤ (startedOf its').length ∧ g = (startedOf its').length - j ∧ i = .int .i64 (j : Nat) ∧ OwnC w6.heap.size w6 out cs wx ∧ cs.length = j ∧ ∀ (i : Nat) (c : Cmd), cs[i]? = some c → ∃ x, (its'.filter (·.2))[i]? = some x ∧ ∃ da dc, c = x.1.re da dc)
          case atStart => exact ⟨0, [], Nat.zero_le _, by simp, rfl, OwnC.start w6, rfl, fun i c hc => by cases hc⟩
          case round =>
            obtain ⟨j, cs, hj, rfl, rfl, hO, hcl, hrc⟩ := hrel
            have HO := Lib.hid hO
            have HCL := Lib.hid hcl
            have HRC := Lib.hid hrc
            have P7 := Lib.hid (P6.out.grow hO.bel)
            have hbx := hO.bel
            clear hO hcl hrc
            by_cases hjl : j < (startedOf its').length
            · obtain ⟨y, hy⟩ : ∃ y, (its'.filter (·.2))[j]? = some y := ⟨_, List.getElem?_eq_getElem (by unfold startedOf at hjl; rw [List.length_map] at hjl; exact hjl)⟩
              have hyt : (startedOf its')[j]? = some y.1.tag := by unfold startedOf; rw [List.getElem?_map, hy]; rfl
              obtain ⟨b7, o7, rfl, hc7⟩ := HI7.out (by omega)
              have gt := cell_keep hbx (hc7 j _ hyt)
              have C34 := Lib.hid (getSt P7.out.a.qa (x := y) (List.mem_filter.1 (List.mem_of_getElem? hy)).1)
              have HY := Lib.hid hy
              clear hc7 hyt hy
              go_wp2_with fail
              refine C34.out.mono ?_
              rintro e w8 ⟨⟨c, rfl, hok, hfr, hre⟩, hb8'⟩
              have hbb := below_box w8 c.arr 24
              have hbz := hb8'.trans (hbb.mono hb8'.size)
              have HO9 := Lib.hid (HO.out.grow hbz)
              have HOK := Lib.hid (hok.mono hbb)
              have HOF : Hid (∀ b o, 0 < c.bs.length → c.da = some ⟨b, o, none⟩ → u7.ownBlock ≠ some b) := fun b o hl e hb => by
                have h1 := hfr b o e
                have h2 := (HO.out.own.lt b hb).2
                omega
              have HRE := Lib.hid hre
              clear hok hfr hre hbb hbz gt C34
              go_wp2_with (at_builtin; refine wpList_append_cmd HO9.out c HOK.out HOF.out (by rw [HCL.out]; omega) rfl _ _ rfl rfl (w8.heap.size + 1) (by simp) rfl ?_)
              intro v' w9 hO' _ _
              have HO' := Lib.hid hO'
              have HR' : Hid (∀ (i : Nat) (d : Cmd), (cs ++ [c])[i]? = some d → ∃ x, (its'.filter (·.2))[i]? = some x ∧ ∃ da dc, d = x.1.re da dc) := fun i d hd => by
                rcases Nat.lt_or_ge i cs.length with hlt | hge
                · rw [List.getElem?_append_left hlt] at hd
                  exact HRC.out i d hd
                · have hi : i = cs.length := by
                    have := (List.getElem?_eq_some_iff.1 hd).1
                    simp at this
                    omega
                  rw [List.getElem?_append_right hge, hi, Nat.sub_self] at hd
                  have hd : c = d := by simpa using hd
                  rw [hi, HCL.out, ← hd]
                  exact ⟨y, HY.out, HRE.out⟩
              have HL' : Hid ((cs ++ [c]).length = j + 1) := by show _ = _; rw [List.length_append, HCL.out]; rfl
              clear hO'
              go_wp2
              go_roundg ((startedOf its').length - (j + 1))
              case measure => omega
              case rel => exact ⟨j + 1, cs ++ [c], by omega, rfl, by go_num, HO'.out, HL'.out, HR'.out⟩
            · obtain ⟨w9, hw9⟩ : ∃ w9, w9 = wr := ⟨_, rfl⟩
              subst hw9
              obtain ⟨oa, oc, rfl, hcm⟩ := HO.out.cmds
              have HCM := Lib.hid hcm
              have hcl2 : cs.length ≤ 151 := by rw [HCL.out]; omega
              clear hcm
              go_wp2_with fail
              go_loopg [12, 13, 69, 73] (cs.length) (fun g _ _ i _ wx => ∃ j, j ≤ cs.length ∧ g = cs.length - j ∧ i = .int .i64 (j : Nat) ∧ RowKit.Below w9.heap.size w9 wx)
              case atStart => exact ⟨0, Nat.zero_le _, by simp, rfl, RowKit.Below.refl _ _⟩
              case round =>
                obtain ⟨j2, hj2, rfl, rfl, hbj⟩ := hrel
                by_cases hj2l : j2 < cs.length
                · obtain ⟨wj, hwj⟩ : ∃ wj, wj = wr := ⟨_, rfl⟩
                  subst hwj
                  obtain ⟨yc, hyc⟩ : ∃ yc, cs[j2]? = some yc := ⟨_, List.getElem?_eq_getElem hj2l⟩
                  have HYC := Lib.hid hyc
                  clear hyc
                  go_wp2_with fail
                  go_loopg [13, 73] j2 (fun g _ i wy => ∃ m, m ≤ j2 ∧ g = j2 - m ∧ i = .int .i64 (m : Nat) ∧ RowKit.Below w9.heap.size w9 wy)
                  case atStart => exact ⟨0, Nat.zero_le _, by simp, rfl, hbj⟩
                  case round =>
                    obtain ⟨m, hm2, rfl, rfl, hbm⟩ := hrel
                    by_cases hml : m < j2
                    · obtain ⟨xc, hxc⟩ : ∃ xc, cs[m]? = some xc := ⟨_, List.getElem?_eq_getElem (by omega)⟩
                      have HBF : Hid (beforeB xc yc = false) := by
                        obtain ⟨p1, hp1, d1, e1, rfl⟩ := HRC.out m xc hxc
                        obtain ⟨p2, hp2, d2, e2, hyc2⟩ := HRC.out j2 yc HYC.out
                        show beforeB _ _ = false
                        rw [hyc2]
                        exact V4.out.pairs hml hp1 hp2
                      have ox := (HCM.out.1 m xc hxc).mono hbm
                      have oy := (HCM.out.1 j2 yc HYC.out).mono hbm
                      obtain ⟨cb, co, rfl, hcc⟩ := HCM.out.2 (by omega)
                      obtain ⟨t0, t1, t2, t3, t4, t5, t6, t7, t8⟩ := ((hcc m xc hxc).mono hbm).grown
                      obtain ⟨s0, s1, s2, s3, s4, s5, s6, s7, s8⟩ := ((hcc j2 yc HYC.out).mono hbm).grown
                      have hmlen : m < cs.length := by omega
                      have C20a := reg_below (wr := wr) fun W hW => refBefore_any xc yc W (ox.mono hW) (oy.mono hW)
                      rw [HBF.out] at C20a
                      have C20 := Lib.hid C20a
                      clear C20a hcc hxc ox oy
                      go_wp2_with fail
                      refine wp_region_quiet_below (by kernel_rfl) (by kernel_rfl) ?_
                      repeat (go_big_quiet_step ((go_at_call 20; exact C20.out _ _)))
                      refine wpQuiet_nil ?_
                      intro _ hw'
                      obtain ⟨⟨d, os⟩, hw''⟩ := hw'
                      subst hw''
                      have hbm2 : RowKit.Below w9.heap.size w9 (grow (redrawn wr d) os) := hbm.trans ((below_regrown wr d os).mono hbm.size)
                      generalize grow (redrawn wr d) os = wz at hbm2 ⊢
                      clear t0 t1 t2 t3 t4 t5 t6 t7 t8 s0 s1 s2 s3 s4 s5 s6 s7 s8
                      go_wp2
                      go_roundg (j2 - (m + 1))
                      case measure => omega
                      case rel => exact ⟨m + 1, by omega, rfl, by go_num, hbm2⟩
                    · go_wp2
                      go_roundg (cs.length - (j2 + 1))
                      case measure => omega
                      case rel => exact ⟨j2 + 1, by omega, rfl, by go_num, hbm⟩
                · have PE := Lib.hid (P7.out.grow hbj)
                  go_wp2
                  go_roundg (ls.length - (k + 1))
                  case measure => omega
                  case rel => exact ⟨k + 1, n', tv', its', sv', jts', by omega, rfl, by go_num, by omega, by omega, PE.out, E4.out, V4.out⟩
        | succ M =>
          have C31 := Lib.hid (RetInts.named (CQT.out _ hr0) hlen)
          have hMM : M ≤ 150 := by rw [tagsOf_len] at hlen; omega
          have HPOS : Hid (0 < its'.length) := by show 0 < _; rw [tagsOf_len] at hlen; omega
          clear hlen
          go_wp2_with fail
          refine C31.out.mono ?_
          rintro e w5a ⟨a5, c5, rfl, hb5a⟩
          cases hsn : (startedOf its').length with
          | succ S =>
            have C32 := Lib.hid (RetInts.named (CQS.out _ hb5a) hsn)
            have hSS : S ≤ 150 := by omega
            clear hsn
            go_wp2_with fail
            refine C32.out.mono ?_
            rintro e w5 ⟨a6, c6, rfl, hb6⟩
            have hb5 := hb5a.trans (hb6.mono hb5a.size)
            go_wp2_with fail
            refine (CQS.out _ hb5).mono ?_
            rintro e w6 ⟨a7, c7, rfl, hI7, hb7⟩
            have hb46 := hb5.trans (hb7.mono hb5.size)
            have P6 := Lib.hid (P4.out.grow hb46)
            have HI7 := Lib.hid hI7
            have hSL : (startedOf its').length ≤ 151 := by omega
            clear hI7
            go_wp2_with fail
            go_loopg [7, 50] ((startedOf its').length) (fun g out i wx => ∃ j cs, j ≤ (startedOf its').length ∧ g = (startedOf its').length - j ∧ i = .int .i64 (j : Nat) ∧ OwnC w6.heap.size w6 out cs wx ∧ cs.length = j ∧ ∀ (i : Nat) (c : Cmd), cs[i]? = some c → ∃ x, (its'.filter (·.2))[i]? = some x ∧ ∃ da dc, c = x.1.re da dc)
            case atStart => exact ⟨0, [], Nat.zero_le _, by simp, rfl, OwnC.start w6, rfl, fun i c hc => by cases hc⟩
            case round =>
              obtain ⟨j, cs, hj, rfl, rfl, hO, hcl, hrc⟩ := hrel
              have HO := Lib.hid hO
              have HCL := Lib.hid hcl
              have HRC := Lib.hid hrc
              have P7 := Lib.hid (P6.out.grow hO.bel)
              have hbx := hO.bel
              clear hO hcl hrc
              by_cases hjl : j < (startedOf its').length
              · obtain ⟨y, hy⟩ : ∃ y, (its'.filter (·.2))[j]? = some y := ⟨_, List.getElem?_eq_getElem (by unfold startedOf at hjl; rw [List.length_map] at hjl; exact hjl)⟩
                have hyt : (startedOf its')[j]? = some y.1.tag := by unfold startedOf; rw [List.getElem?_map, hy]; rfl
                obtain ⟨b7, o7, rfl, hc7⟩ := HI7.out (by omega)
                have gt := cell_keep hbx (hc7 j _ hyt)
                have C34 := Lib.hid (getSt P7.out.a.qa (x := y) (List.mem_filter.1 (List.mem_of_getElem? hy)).1)
                have HY := Lib.hid hy
                clear hc7 hyt hy
                go_wp2_with fail
                refine C34.out.mono ?_
                rintro e w8 ⟨⟨c, rfl, hok, hfr, hre⟩, hb8'⟩
                have hbb := below_box w8 c.arr 24
                have hbz := hb8'.trans (hbb.mono hb8'.size)
                have HO9 := Lib.hid (HO.out.grow hbz)
                have HOK := Lib.hid (hok.mono hbb)
                have HOF : Hid (∀ b o, 0 < c.bs.length → c.da = some ⟨b, o, none⟩ → u7.ownBlock ≠ some b) := fun b o hl e hb => by
                  have h1 := hfr b o e
                  have h2 := (HO.out.own.lt b hb).2
                  omega
                have HRE := Lib.hid hre
                clear hok hfr hre hbb hbz gt C34
                go_wp2_with (at_builtin; refine wpList_append_cmd HO9.out c HOK.out HOF.out (by rw [HCL.out]; omega) rfl _ _ rfl rfl (w8.heap.size + 1) (by simp) rfl ?_)
                intro v' w9 hO' _ _
                have HO' := Lib.hid hO'
                have HR' : Hid (∀ (i : Nat) (d : Cmd), (cs ++ [c])[i]? = some d → ∃ x, (its'.filter (·.2))[i]? = some x ∧ ∃ da dc, d = x.1.re da dc) := fun i d hd => by
                  rcases Nat.lt_or_ge i cs.length with hlt | hge
                  · rw [List.getElem?_append_left hlt] at hd
                    exact HRC.out i d hd
                  · have hi : i = cs.length := by
                      have := (List.getElem?_eq_some_iff.1 hd).1
                      simp at this
                      omega
                    rw [List.getElem?_append_right hge, hi, Nat.sub_self] at hd
                    have hd : c = d := by simpa using hd
                    rw [hi, HCL.out, ← hd]
                    exact ⟨y, HY.out, HRE.out⟩
                have HL' : Hid ((cs ++ [c]).length = j + 1) := by show _ = _; rw [List.length_append, HCL.out]; rfl
                clear hO'
                go_wp2
                go_roundg ((startedOf its').length - (j + 1))
                case measure => omega
                case rel => exact ⟨j + 1, cs ++ [c], by omega, rfl, by go_num, HO'.out, HL'.out, HR'.out⟩
              · obtain ⟨w9, hw9⟩ : ∃ w9, w9 = wr := ⟨_, rfl⟩
                subst hw9
                obtain ⟨oa, oc, rfl, hcm⟩ := HO.out.cmds
                have HCM := Lib.hid hcm
                have hcl2 : cs.length ≤ 151 := by rw [HCL.out]; omega
                clear hcm
                go_wp2_with fail
                go_loopg [12, 13, 69, 73] (cs.length) (fun g _ _ i _ wx => ∃ j, j ≤ cs.length ∧ g = cs.length - j ∧ i = .int .i64 (j : Nat) ∧ RowKit.Below w9.heap.size w9 wx)
                case atStart => exact ⟨0, Nat.zero_le _, by simp, rfl, RowKit.Below.refl _ _⟩
                case round =>
                  obtain ⟨j2, hj2, rfl, rfl, hbj⟩ := hrel
                  by_cases hj2l : j2 < cs.length
                  · obtain ⟨wj, hwj⟩ : ∃ wj, wj = wr := ⟨_, rfl⟩
                    subst hwj
                    obtain ⟨yc, hyc⟩ : ∃ yc, cs[j2]? = some yc := ⟨_, List.getElem?_eq_getElem hj2l⟩
                    have HYC := Lib.hid hyc
                    clear hyc
                    go_wp2_with fail
                    go_loopg [13, 73] j2 (fun g _ i wy => ∃ m, m ≤ j2 ∧ g = j2 - m ∧ i = .int .i64 (m : Nat) ∧ RowKit.Below w9.heap.size w9 wy)
                    case atStart => exact ⟨0, Nat.zero_le _, by simp, rfl, hbj⟩
                    case round =>
                      obtain ⟨m, hm2, rfl, rfl, hbm⟩ := hrel
                      by_cases hml : m < j2
                      · obtain ⟨xc, hxc⟩ : ∃ xc, cs[m]? = some xc := ⟨_, List.getElem?_eq_getElem (by omega)⟩
                        have HBF : Hid (beforeB xc yc = false) := by
                          obtain ⟨p1, hp1, d1, e1, rfl⟩ := HRC.out m xc hxc
                          obtain ⟨p2, hp2, d2, e2, hyc2⟩ := HRC.out j2 yc HYC.out
                          show beforeB _ _ = false
                          rw [hyc2]
                          exact V4.out.pairs hml hp1 hp2
                        have ox := (HCM.out.1 m xc hxc).mono hbm
                        have oy := (HCM.out.1 j2 yc HYC.out).mono hbm
                        obtain ⟨cb, co, rfl, hcc⟩ := HCM.out.2 (by omega)
                        obtain ⟨t0, t1, t2, t3, t4, t5, t6, t7, t8⟩ := ((hcc m xc hxc).mono hbm).grown
                        obtain ⟨s0, s1, s2, s3, s4, s5, s6, s7, s8⟩ := ((hcc j2 yc HYC.out).mono hbm).grown
                        have hmlen : m < cs.length := by omega
                        have C20a := reg_below (wr := wr) fun W hW => refBefore_any xc yc W (ox.mono hW) (oy.mono hW)
                        rw [HBF.out] at C20a
                        have C20 := Lib.hid C20a
                        clear C20a hcc hxc ox oy
                        go_wp2_with fail
                        refine wp_region_quiet_below (by kernel_rfl) (by kernel_rfl) ?_
                        repeat (go_big_quiet_step ((go_at_call 20; exact C20.out _ _)))
                        refine wpQuiet_nil ?_
                        intro _ hw'
                        obtain ⟨⟨d, os⟩, hw''⟩ := hw'
                        subst hw''
                        have hbm2 : RowKit.Below w9.heap.size w9 (grow (redrawn wr d) os) := hbm.trans ((below_regrown wr d os).mono hbm.size)
                        generalize grow (redrawn wr d) os = wz at hbm2 ⊢
                        clear t0 t1 t2 t3 t4 t5 t6 t7 t8 s0 s1 s2 s3 s4 s5 s6 s7 s8
                        go_wp2
                        go_roundg (j2 - (m + 1))
                        case measure => omega
                        case rel => exact ⟨m + 1, by omega, rfl, by go_num, hbm2⟩
                      · go_wp2
                        go_roundg (cs.length - (j2 + 1))
                        case measure => omega
                        case rel => exact ⟨j2 + 1, by omega, rfl, by go_num, hbm⟩
                  · have PE := Lib.hid (P7.out.grow hbj)
                    go_wp2
                    go_roundg (ls.length - (k + 1))
                    case measure => omega
                    case rel => exact ⟨k + 1, n', tv', its', sv', jts', by omega, rfl, by go_num, by omega, by omega, PE.out, E4.out, V4.out⟩
          | zero =>
            have C32 := Lib.hid (RetInts.named (CQS.out _ hb5a) hsn)
            have HLV : Hid (eligTags its' ≠ []) := live_any HPOS.out (List.eq_nil_of_length_eq_zero hsn)
            clear hsn
            go_wp2_with fail
            refine C32.out.mono ?_
            rintro e w5b ⟨a6, c6, rfl, hb6⟩
            have hb5b := hb5a.trans (hb6.mono hb5a.size)
            cases hen : (eligTags its').length with
            | zero => exact absurd (List.eq_nil_of_length_eq_zero hen) HLV.out
            | succ E =>
              have C33 := Lib.hid (RetInts.named (CQE.out _ hb5b) hen)
              have hEE : E ≤ 150 := by have := eligTags_len its'; omega
              clear hen
              go_wp2_with fail
              refine C33.out.mono ?_
              rintro e w5 ⟨a8, c8, rfl, hb8⟩
              have hb5 := hb5b.trans (hb8.mono hb5b.size)
              go_wp2_with fail
              refine (CQS.out _ hb5).mono ?_
              rintro e w6 ⟨a7, c7, rfl, hI7, hb7⟩
              have hb46 := hb5.trans (hb7.mono hb5.size)
              have P6 := Lib.hid (P4.out.grow hb46)
              have HI7 := Lib.hid hI7
              have hSL : (startedOf its').length ≤ 151 := by omega
              clear hI7
              go_wp2_with fail
              go_loopg [7, 50] ((startedOf its').length) (fun g out i wx => ∃ j cs, j ≤ (startedOf its').length ∧ g = (startedOf its').length - j ∧ i = .int .i64 (j : Nat) ∧ OwnC w6.heap.size w6 out cs wx ∧ cs.length = j ∧ ∀ (i : Nat) (c : Cmd), cs[i]? = some c → ∃ x, (its'.filter (·.2))[i]? = some x ∧ ∃ da dc, c = x.1.re da dc)
              case atStart => exact ⟨0, [], Nat.zero_le _, by simp, rfl, OwnC.start w6, rfl, fun i c hc => by cases hc⟩
              case round =>
                obtain ⟨j, cs, hj, rfl, rfl, hO, hcl, hrc⟩ := hrel
                have HO := Lib.hid hO
                have HCL := Lib.hid hcl
                have HRC := Lib.hid hrc
                have P7 := Lib.hid (P6.out.grow hO.bel)
                have hbx := hO.bel
                clear hO hcl hrc
                by_cases hjl : j < (startedOf its').length
                · obtain ⟨y, hy⟩ : ∃ y, (its'.filter (·.2))[j]? = some y := ⟨_, List.getElem?_eq_getElem (by unfold startedOf at hjl; rw [List.length_map] at hjl; exact hjl)⟩
                  have hyt : (startedOf its')[j]? = some y.1.tag := by unfold startedOf; rw [List.getElem?_map, hy]; rfl
                  obtain ⟨b7, o7, rfl, hc7⟩ := HI7.out (by omega)
                  have gt := cell_keep hbx (hc7 j _ hyt)
                  have C34 := Lib.hid (getSt P7.out.a.qa (x := y) (List.mem_filter.1 (List.mem_of_getElem? hy)).1)
                  have HY := Lib.hid hy
                  clear hc7 hyt hy
                  go_wp2_with fail
                  refine C34.out.mono ?_
                  rintro e w8 ⟨⟨c, rfl, hok, hfr, hre⟩, hb8'⟩
                  have hbb := below_box w8 c.arr 24
                  have hbz := hb8'.trans (hbb.mono hb8'.size)
                  have HO9 := Lib.hid (HO.out.grow hbz)
                  have HOK := Lib.hid (hok.mono hbb)
                  have HOF : Hid (∀ b o, 0 < c.bs.length → c.da = some ⟨b, o, none⟩ → u7.ownBlock ≠ some b) := fun b o hl e hb => by
                    have h1 := hfr b o e
                    have h2 := (HO.out.own.lt b hb).2
                    omega
                  have HRE := Lib.hid hre
                  clear hok hfr hre hbb hbz gt C34
                  go_wp2_with (at_builtin; refine wpList_append_cmd HO9.out c HOK.out HOF.out (by rw [HCL.out]; omega) rfl _ _ rfl rfl (w8.heap.size + 1) (by simp) rfl ?_)
                  intro v' w9 hO' _ _
                  have HO' := Lib.hid hO'
                  have HR' : Hid (∀ (i : Nat) (d : Cmd), (cs ++ [c])[i]? = some d → ∃ x, (its'.filter (·.2))[i]? = some x ∧ ∃ da dc, d = x.1.re da dc) := fun i d hd => by
                    rcases Nat.lt_or_ge i cs.length with hlt | hge
                    · rw [List.getElem?_append_left hlt] at hd
                      exact HRC.out i d hd
                    · have hi : i = cs.length := by
                        have := (List.getElem?_eq_some_iff.1 hd).1
                        simp at this
                        omega
                      rw [List.getElem?_append_right hge, hi, Nat.sub_self] at hd
                      have hd : c = d := by simpa using hd
                      rw [hi, HCL.out, ← hd]
                      exact ⟨y, HY.out, HRE.out⟩
                  have HL' : Hid ((cs ++ [c]).length = j + 1) := by show _ = _; rw [List.length_append, HCL.out]; rfl
                  clear hO'
                  go_wp2
                  go_roundg ((startedOf its').length - (j + 1))
                  case measure => omega
                  case rel => exact ⟨j + 1, cs ++ [c], by omega, rfl, by go_num, HO'.out, HL'.out, HR'.out⟩
                · obtain ⟨w9, hw9⟩ : ∃ w9, w9 = wr := ⟨_, rfl⟩
                  subst hw9
                  obtain ⟨oa, oc, rfl, hcm⟩ := HO.out.cmds
                  have HCM := Lib.hid hcm
                  have hcl2 : cs.length ≤ 151 := by rw [HCL.out]; omega
                  clear hcm
                  go_wp2_with fail
                  go_loopg [12, 13, 69, 73] (cs.length) (fun g _ _ i _ wx => ∃ j, j ≤ cs.length ∧ g = cs.length - j ∧ i = .int .i64 (j : Nat) ∧ RowKit.Below w9.heap.size w9 wx)
                  case atStart => exact ⟨0, Nat.zero_le _, by simp, rfl, RowKit.Below.refl _ _⟩
                  case round =>
                    obtain ⟨j2, hj2, rfl, rfl, hbj⟩ := hrel
                    by_cases hj2l : j2 < cs.length
                    · obtain ⟨wj, hwj⟩ : ∃ wj, wj = wr := ⟨_, rfl⟩
                      subst hwj
                      obtain ⟨yc, hyc⟩ : ∃ yc, cs[j2]? = some yc := ⟨_, List.getElem?_eq_getElem hj2l⟩
                      have HYC := Lib.hid hyc
                      clear hyc
                      go_wp2_with fail
                      go_loopg [13, 73] j2 (fun g _ i wy => ∃ m, m ≤ j2 ∧ g = j2 - m ∧ i = .int .i64 (m : Nat) ∧ RowKit.Below w9.heap.size w9 wy)
                      case atStart => exact ⟨0, Nat.zero_le _, by simp, rfl, hbj⟩
                      case round =>
                        obtain ⟨m, hm2, rfl, rfl, hbm⟩ := hrel
                        by_cases hml : m < j2
                        · obtain ⟨xc, hxc⟩ : ∃ xc, cs[m]? = some xc := ⟨_, List.getElem?_eq_getElem (by omega)⟩
                          have HBF : Hid (beforeB xc yc = false) := by
                            obtain ⟨p1, hp1, d1, e1, rfl⟩ := HRC.out m xc hxc
                            obtain ⟨p2, hp2, d2, e2, hyc2⟩ := HRC.out j2 yc HYC.out
                            show beforeB _ _ = false
                            rw [hyc2]
                            exact V4.out.pairs hml hp1 hp2
                          have ox := (HCM.out.1 m xc hxc).mono hbm
                          have oy := (HCM.out.1 j2 yc HYC.out).mono hbm
                          obtain ⟨cb, co, rfl, hcc⟩ := HCM.out.2 (by omega)
                          obtain ⟨t0, t1, t2, t3, t4, t5, t6, t7, t8⟩ := ((hcc m xc hxc).mono hbm).grown
                          obtain ⟨s0, s1, s2, s3, s4, s5, s6, s7, s8⟩ := ((hcc j2 yc HYC.out).mono hbm).grown
                          have hmlen : m < cs.length := by omega
                          have C20a := reg_below (wr := wr) fun W hW => refBefore_any xc yc W (ox.mono hW) (oy.mono hW)
                          rw [HBF.out] at C20a
                          have C20 := Lib.hid C20a
                          clear C20a hcc hxc ox oy
                          go_wp2_with fail
                          refine wp_region_quiet_below (by kernel_rfl) (by kernel_rfl) ?_
                          repeat (go_big_quiet_step ((go_at_call 20; exact C20.out _ _)))
                          refine wpQuiet_nil ?_
                          intro _ hw'
                          obtain ⟨⟨d, os⟩, hw''⟩ := hw'
                          subst hw''
                          have hbm2 : RowKit.Below w9.heap.size w9 (grow (redrawn wr d) os) := hbm.trans ((below_regrown wr d os).mono hbm.size)
                          generalize grow (redrawn wr d) os = wz at hbm2 ⊢
                          clear t0 t1 t2 t3 t4 t5 t6 t7 t8 s0 s1 s2 s3 s4 s5 s6 s7 s8
                          go_wp2
                          go_roundg (j2 - (m + 1))
                          case measure => omega
                          case rel => exact ⟨m + 1, by omega, rfl, by go_num, hbm2⟩
                        · go_wp2
                          go_roundg (cs.length - (j2 + 1))
                          case measure => omega
                          case rel => exact ⟨j2 + 1, by omega, rfl, by go_num, hbm⟩
                    · have PE := Lib.hid (P7.out.grow hbj)
                      go_wp2
                      go_roundg (ls.length - (k + 1))
                      case measure => omega
                      case rel => exact ⟨k + 1, n', tv', its', sv', jts', by omega, rfl, by go_num, by omega, by omega, PE.out, E4.out, V4.out⟩
      · go_wp2_with fail
        go_ret
        exact ⟨rfl, hBr⟩
end Go.Proofs.YtfbafjlhdbjgoaaDoor
