/- The walk of QueueCalls. -/
import Derived.Test.YtfbafjlhdbjgoaaDoorR11
namespace Go.Proofs.YtfbafjlhdbjgoaaDoor
set_option linter.unusedVariables false
set_option linter.unusedSimpArgs false
open Go.RowKit Go.Sort
set_option maxRecDepth 100000

theorem same41_eq (aa ba : Option Addr) (ac bc : Nat) (xs : List Int) (w : World) (hx : Ints w aa xs) (hy : Ints w ba xs) (hm : (xs.length : Int) ≤ 17592186044416) :
    Calls Tryd.prog 42 #[.slice aa xs.length ac, .slice ba xs.length bc] w fun e w' => e = .returned (.bool true) ∧ RowKit.Below w.heap.size w w' :=
  (same_ints41_any aa ba ac bc xs xs w hx hy hm).mono fun e w' ⟨h1, h2⟩ => ⟨by rw [h1]; simp, h2⟩
theorem pairGet {w W : World} {q m1 m2 n r : Nat} {tv sv : Value} {its jts : List QItem} (p : PW w W q m1 m2 n tv its r sv jts) (he : Eqv its jts) (t : Int) (hk : (Lit.int .i64 t).wf = true) (hm : its.length ≤ 1000000) :
    ∃ (cc : Cmd) (ok : Bool) (da' : Option Addr) (dc' : Nat), (cc.bs.length : Int) ≤ 17592186044416 ∧ Dat W da' cc.bs ∧
      (∀ W', RowKit.Below W.heap.size W W' → Calls Tryd.prog 34 #[.pointer (some ⟨q, 0, none⟩), .int .i64 t] W' fun e w' => (∃ da dc, e = .returned (.tuple #[valAt cc da dc, .bool ok]) ∧ Dat w' da cc.bs) ∧ RowKit.Below W'.heap.size W' w') ∧
      (∀ W', RowKit.Below W.heap.size W W' → Calls Tryd.prog 48 #[.pointer (some ⟨r, 0, none⟩), .int .i64 t] W' fun e w' => e = .returned (.tuple #[valAt cc da' dc', .bool ok]) ∧ RowKit.Below W'.heap.size W' w') := by
  have hl := he.len
  have hfi := he.find t
  cases hf : its.find? (fun x => x.1.tag == t) with
  | none =>
    rw [hf] at hfi
    have hfj : jts.find? (fun x => x.1.tag == t) = none := by
      cases h : jts.find? (fun x => x.1.tag == t) with
      | none => rfl
      | some y => rw [h] at hfi; cases hfi
    refine ⟨cmdz, false, none, 0, by decide, fun h => absurd h (by decide), fun W' hW => (get_any (p.a.qa.grow hW) hk).mono fun e w' ⟨h1, h2⟩ => ?_, fun W' hW => (rGet_any (p.b.grow hW) t (by omega)).mono fun e w' ⟨h1, h2⟩ => ?_⟩
    · unfold GetPost at h1
      rw [hf] at h1
      exact ⟨⟨none, 0, h1, fun h => absurd h (by decide)⟩, h2⟩
    · unfold RGet at h1
      rw [hfj] at h1
      exact ⟨h1, h2⟩
  | some x =>
    rw [hf] at hfi
    obtain ⟨y, hfj, hn⟩ : ∃ y, jts.find? (fun x => x.1.tag == t) = some y ∧ nrm x = nrm y := by
      cases h : jts.find? (fun x => x.1.tag == t) with
      | none => rw [h] at hfi; cases hfi
      | some y => rw [h] at hfi; injection hfi with hfi; exact ⟨y, rfl, hfi⟩
    have hy := nrm_eq hn
    have hym := List.mem_of_find?_eq_some hfj
    have hxm := List.mem_of_find?_eq_some hf
    have hbs : y.1.bs = x.1.bs := by rw [hy]; rfl
    refine ⟨x.1, true, y.1.da, y.1.dc, (p.a.qa.ok x hxm).1.len, by have := (p.b.ok y hym).1.dat; rwa [hbs] at this, fun W' hW => (get_any (p.a.qa.grow hW) hk).mono fun e w' ⟨h1, h2⟩ => ?_, fun W' hW => (rGet_any (p.b.grow hW) t (by omega)).mono fun e w' ⟨h1, h2⟩ => ?_⟩
    · unfold GetPost at h1
      rw [hf] at h1
      obtain ⟨da, dc, h3, h4, _⟩ := h1
      exact ⟨⟨da, dc, h3, h4.dat⟩, h2⟩
    · unfold RGet at h1
      rw [hfj] at h1
      refine ⟨?_, h2⟩
      rw [h1]
      show Ending.returned (.tuple #[y.1.val, .bool true]) = _
      rw [hy]
      rfl

set_option maxHeartbeats 2000000 in
theorem queueCalls_walk (la : Option Addr) (lc : Nat) (ls : List ActC) (w : World) (h : Acts w la ls) (hm : (ls.length : Int) ≤ 17592186044416) :
    Calls Tryd.prog 17 #[.slice la ls.length lc] w fun e w' => e = .returned (.bool true) ∧ RowKit.Below w.heap.size w w' := by
  have HH := Lib.hid h
  clear h
  go_enter Tryd.func17, Tryd.ntmps17
  go_wp2_with fail
  refine (awake41_any _).mono ?_
  rintro e w1 ⟨rfl, hB1⟩
  go_wp2_with fail
  refine (large_any la lc ls _ (HH.out.mono hB1) hm).mono ?_
  rintro e w2 ⟨⟨lb, rfl, hb⟩, hB2⟩
  have hB02 := hB1.trans (hB2.mono hB1.size)
  cases lb with
  | true =>
    clear hb
    go_wp2_with fail
    go_ret
    exact ⟨rfl, hB02⟩
  | false =>
    have h150 := hb rfl
    have HA2 := Lib.hid (HH.out.mono hB02)
    clear hb
    go_wp2_with fail
    refine (AW.new _).mono ?_
    rintro e w3 ⟨q, m1, m2, rfl, h3⟩
    have P0 := Lib.hid (PW.new h3)
    generalize hR : w3.heap.size = R at P0
    have HR := Lib.hid hR
    clear h3 hR
    go_wp2_with fail
    rw [HR.out]
    go_loopg [6, 20] (ls.length) (fun g _ i wr => ∃ k n tv its sv jts, k ≤ ls.length ∧ g = ls.length - k ∧ i = .int .i64 (k : Nat) ∧ n ≤ k ∧ its.length ≤ k ∧ PW w2 wr q m1 m2 n tv its R sv jts ∧ Eqv its jts)
    case atStart => exact ⟨0, 0, _, [], _, [], Nat.zero_le _, by simp, rfl, Nat.le_refl _, Nat.le_refl _, P0.out, eqv_nil⟩
    case round =>
      obtain ⟨k, n, tv, its, sv, jts, hk, rfl, rfl, hn, hil, hP, hE⟩ := hrel
      have HP := Lib.hid hP
      have HE := Lib.hid hE
      have hB2r := hP.bel
      have hBr := hB02.trans (hB2r.mono hB02.size)
      clear hP hE
      by_cases hkl : k < ls.length
      · obtain ⟨x, hx⟩ : ∃ x, ls[k]? = some x := ⟨_, List.getElem?_eq_getElem hkl⟩
        obtain ⟨b, o, rfl, hcs⟩ := HA2.out.2 (by omega)
        obtain ⟨t0, t1, t2, t3, t4, t5, t6, t7, t8, t9, t10⟩ := (hcs k x hx).mono hB2r
        have HX := Lib.hid (HA2.out.1 k x hx)
        have hb4 := below_box wr (actArr x.kind x.K x.c) 44
        have C := Lib.hid (do_any (HP.out.grow hb4) HE.out x.kind x.K x.c HX.out.1 HX.out.2 (by omega) (by omega))
        have B4 : Hid ((wr.alloc (.cells (actArr x.kind x.K x.c) 44)).heap[wr.heap.size]? = some (.cells (actArr x.kind x.K x.c) 44 (0, 0))) := heap_alloc_new wr _
        have HB4 := Lib.hid hb4
        clear hcs hx hb4
        go_wp2_with fail
        refine C.out.mono ?_
        rintro e w4 ⟨rfl, ⟨n', tv', its', sv', jts', hn', hP4, hE4, hS4⟩, hT4⟩
        have P4 := Lib.hid hP4
        have E4 := Lib.hid hE4
        have hl4 := hS4.len
        have A4 : Hid (w4.heap[wr.heap.size]? = some (.cells (actArr x.kind x.K x.c) 44 (0, 0))) := hT4.heap B4.out (fun hq => by
          rcases hq with hq | hq
          · have := qf_lt HP.out.a.qa hq; omega
          · have := rf_lt HP.out.b hq; omega)
        have hj4 := hE4.len
        have ht4 : (tagsOf its').length ≤ its'.length := Nat.le_of_eq (tagsOf_len _)
        have hj5 : jts'.length ≤ its'.length := Nat.le_of_eq hj4.symm
        have hs4 : (startedOf its').length ≤ its'.length := by unfold startedOf; rw [List.length_map]; exact List.length_filter_le _ _
        have he4 := eligTags_len its'
        have CQT : Hid (∀ W, RowKit.Below w4.heap.size w4 W → Calls Tryd.prog 31 #[.pointer (some ⟨q, 0, none⟩)] W fun e w' => RetInts (tagsOf its') W e w') := fun W hW => tags_any (hP4.a.qa.grow hW) (by omega)
        have CQS : Hid (∀ W, RowKit.Below w4.heap.size w4 W → Calls Tryd.prog 32 #[.pointer (some ⟨q, 0, none⟩)] W fun e w' => RetInts (startedOf its') W e w') := fun W hW => started_any (hP4.a.qa.grow hW) (by omega)
        have CQE : Hid (∀ W, RowKit.Below w4.heap.size w4 W → Calls Tryd.prog 33 #[.pointer (some ⟨q, 0, none⟩)] W fun e w' => RetInts (eligTags its') W e w') := fun W hW => eligible_any (hP4.a.qa.grow hW) (by omega)
        have CRT : Hid (∀ W, RowKit.Below w4.heap.size w4 W → Calls Tryd.prog 45 #[.pointer (some ⟨R, 0, none⟩), .bool false] W fun e w' => RetInts (tagsOf its') W e w') := fun W hW => by rw [hE4.tags]; exact rTags_any (hP4.b.grow hW) (by omega)
        have CRS : Hid (∀ W, RowKit.Below w4.heap.size w4 W → Calls Tryd.prog 45 #[.pointer (some ⟨R, 0, none⟩), .bool true] W fun e w' => RetInts (startedOf its') W e w') := fun W hW => by rw [hE4.started]; exact rStarted_any (hP4.b.grow hW) (by omega)
        have CRE : Hid (∀ W, RowKit.Below w4.heap.size w4 W → Calls Tryd.prog 46 #[.pointer (some ⟨R, 0, none⟩)] W fun e w' => RetInts (eligTags its') W e w') := fun W hW => by rw [hE4.elig]; exact rEligible_any (hP4.b.grow hW) (by omega)
        clear hj4 hP4 hE4 hS4 hT4 C t0 t1 t2 t3 t4 t5 t6 t7 t8 t9 t10
        go_wp2_with fail
        refine (CQT.out _ (RowKit.Below.refl _ _)).mono ?_
        rintro e w5 ⟨a5, c5, rfl, hI5, hb5⟩
        go_wp2_with fail
        refine (CRT.out _ hb5).mono ?_
        rintro e w6 ⟨a6, c6, rfl, hI6, hb6⟩
        have hb46 := hb5.trans (hb6.mono hb5.size)
        go_wp2_with fail
        refine (same41_eq a5 a6 c5 c6 (tagsOf its') _ (hI5.mono hb6) hI6 (by omega)).mono ?_
        rintro e w7 ⟨rfl, hb7⟩
        have hb47 := hb46.trans (hb7.mono hb46.size)
        clear hI5 hI6
        go_wp2_with fail
        refine (CQS.out _ hb47).mono ?_
        rintro e w8 ⟨a8, c8, rfl, hI8, hb8⟩
        have hb48 := hb47.trans (hb8.mono hb47.size)
        go_wp2_with fail
        refine (CRS.out _ hb48).mono ?_
        rintro e w9 ⟨a9, c9, rfl, hI9, hb9⟩
        have hb49 := hb48.trans (hb9.mono hb48.size)
        go_wp2_with fail
        refine (same41_eq a8 a9 c8 c9 (startedOf its') _ (hI8.mono hb9) hI9 (by omega)).mono ?_
        rintro e w10 ⟨rfl, hb10⟩
        have hb410 := hb49.trans (hb10.mono hb49.size)
        clear hI8 hI9
        go_wp2_with fail
        refine (CQE.out _ hb410).mono ?_
        rintro e w11 ⟨a11, c11, rfl, hI11, hb11⟩
        have hb411 := hb410.trans (hb11.mono hb410.size)
        go_wp2_with fail
        refine (CRE.out _ hb411).mono ?_
        rintro e w12 ⟨a12, c12, rfl, hI12, hb12⟩
        have hb412 := hb411.trans (hb12.mono hb411.size)
        go_wp2_with fail
        refine (same41_eq a11 a12 c11 c12 (eligTags its') _ (hI11.mono hb12) hI12 (by omega)).mono ?_
        rintro e w13 ⟨rfl, hb13⟩
        have hb413 := hb412.trans (hb13.mono hb412.size)
        clear hI11 hI12
        have P13 := Lib.hid (P4.out.grow hb413)
        have A13 : Hid (w13.heap[wr.heap.size]? = some (.cells (actArr x.kind x.K x.c) 44 (0, 0))) := below_heap hb413 A4.out
        have CT : Hid (∀ W, RowKit.Below w13.heap.size w13 W → Calls Tryd.prog 47 #[.pointer (some ⟨R, 0, none⟩), actVal x.kind x.K x.c] W fun e w' => e = .returned (.int .i64 (tagAt jts' x.K)) ∧ RowKit.Below W.heap.size W w') := fun W hW => rTag_any (P13.out.b.grow hW) x.kind x.K x.c (by omega)
        have HW := Lib.hid (tagAt_wf P13.out.b HX.out.2)
        generalize tagAt jts' x.K = tag at CT HW
        obtain ⟨cc, ok, da', dc', hcl, hdd, hq34, hr48⟩ := pairGet P13.out E4.out tag HW.out (by omega)
        have C34 := Lib.hid hq34
        have C48 := Lib.hid hr48
        have HDD := Lib.hid hdd
        obtain ⟨t0, t1, t2, t3, t4, t5, t6, t7, t8, t9, t10⟩ := actCells A13.out
        clear hq34 hr48 hdd CQT CQS CQE CRT CRS CRE
        go_wp2_with fail
        refine (CT.out _ (RowKit.Below.refl _ _)).mono ?_
        rintro e w14 ⟨rfl, hb14⟩
        go_wp2_with fail
        refine (C34.out _ hb14).mono ?_
        rintro e w15 ⟨⟨da, dc, rfl, hd15⟩, hb15⟩
        have D15 := Lib.hid hd15
        have hb1315 := hb14.trans (hb15.mono hb14.size)
        have A15 : Hid (w15.heap[wr.heap.size]? = some (.cells (actArr x.kind x.K x.c) 44 (0, 0))) := below_heap hb1315 A13.out
        clear hd15 t0 t1 t2 t3 t4 t5 t6 t7 t8 t9 t10
        obtain ⟨t0, t1, t2, t3, t4, t5, t6, t7, t8, t9, t10⟩ := actCells A15.out
        have hlt15 : wr.heap.size < w15.heap.size := heap_lt A15.out
        go_wp2_with fail
        have hb16 : RowKit.Below w15.heap.size w15 (w15.alloc (.cells #[.int .i64 cc.tag, .int .i64 cc.kind, .int .i64 cc.ord, .bool cc.force, .string cc.vol, .string cc.oth, .int .i64 cc.pos, .int .i64 cc.len, .slice da cc.bs.length dc] 24)) := below_box w15 _ 24
        have M16 : Hid ((w15.alloc (.cells #[.int .i64 cc.tag, .int .i64 cc.kind, .int .i64 cc.ord, .bool cc.force, .string cc.vol, .string cc.oth, .int .i64 cc.pos, .int .i64 cc.len, .slice da cc.bs.length dc] 24)).heap[w15.heap.size]? = some (.cells (cc.re da dc).arr 24 (0, 0))) := heap_alloc_new w15 _
        generalize w15.alloc (.cells #[.int .i64 cc.tag, .int .i64 cc.kind, .int .i64 cc.ord, .bool cc.force, .string cc.vol, .string cc.oth, .int .i64 cc.pos, .int .i64 cc.len, .slice da cc.bs.length dc] 24) = w16 at hb16 M16 ⊢
        have hb1316 := hb1315.trans (hb16.mono hb1315.size)
        clear t0 t1 t2 t3 t4 t5 t6 t7 t8 t9 t10
        refine (CT.out _ hb1316).mono ?_
        rintro e w17 ⟨rfl, hb17⟩
        have hb1317 := hb1316.trans (hb17.mono hb1316.size)
        go_wp2_with fail
        refine (C48.out _ hb1317).mono ?_
        rintro e w18 ⟨rfl, hb18⟩
        have hb1618 := hb17.trans (hb18.mono hb17.size)
        have hb1318 := hb1316.trans (hb1618.mono hb1316.size)
        have M18 : Hid (w18.heap[w15.heap.size]? = some (.cells (cc.re da dc).arr 24 (0, 0))) := below_heap hb1618 M16.out
        obtain ⟨t0, t1, t2, t3, t4, t5, t6, t7, t8⟩ := boxCells M18.out
        simp only [Nat.zero_add] at t1 t2 t3 t4 t5 t6 t7 t8
        have hlt18 : w15.heap.size < w18.heap.size := heap_lt M18.out
        go_wp2_with fail
        have hb19 := below_box w18 (cc.re da' dc').arr 24
        have hb1319 := hb1318.trans (hb19.mono hb1318.size)
        have hb1519 := (hb16.trans (hb1618.mono hb16.size)).trans (hb19.mono (hb16.trans (hb1618.mono hb16.size)).size)
        refine (same44_eq cc da da' dc dc' _ (D15.out.mono hb1519) (HDD.out.mono hb1319) hcl).mono ?_
        rintro e w20 ⟨rfl, hb20⟩
        have hb1320 := hb1319.trans (hb20.mono hb1319.size)
        have PF' := Lib.hid (P13.out.grow hb1320)
        clear t0 t1 t2 t3 t4 t5 t6 t7 t8
        go_wp2
        go_roundg (ls.length - (k + 1))
        case measure => omega
        case rel => exact ⟨k + 1, n', tv', its', sv', jts', by omega, rfl, by go_num, by omega, by omega, PF'.out, E4.out⟩
      · go_wp2_with fail
        go_ret
        exact ⟨rfl, hBr⟩
end Go.Proofs.YtfbafjlhdbjgoaaDoor
