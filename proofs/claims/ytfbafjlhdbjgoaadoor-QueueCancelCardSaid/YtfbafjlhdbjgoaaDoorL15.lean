/- The walk of QueueCancel. -/
import Derived.Test.YtfbafjlhdbjgoaaDoorR11
import Derived.Test.YtfbafjlhdbjgoaaDoorP2
import Derived.OpenShut
namespace Go.Proofs.YtfbafjlhdbjgoaaDoor
set_option linter.unusedVariables false
set_option linter.unusedSimpArgs false
open Go.RowKit Go.Sort
set_option maxRecDepth 100000

theorem same41_eqC (aa ba : Option Addr) (ac bc : Nat) (xs : List Int) (w : World) (hx : Ints w aa xs) (hy : Ints w ba xs) (hm : (xs.length : Int) ≤ 17592186044416) :
    Calls Tryd.prog 42 #[.slice aa xs.length ac, .slice ba xs.length bc] w fun e w' => e = .returned (.bool true) ∧ RowKit.Below w.heap.size w w' :=
  (same_ints41_any aa ba ac bc xs xs w hx hy hm).mono fun e w' ⟨h1, h2⟩ => ⟨by rw [h1]; simp, h2⟩
/-- What the tags' slice is, its length named. -/
theorem tagsLen {w : World} {q m1 m2 n : Nat} {tv : Value} {its : List QItem} (h : QAt w q m1 m2 n tv its) (hm : (its.length : Int) ≤ 1000000) {M : Nat} (hM : its.length = M) :
    Calls Tryd.prog 31 #[.pointer (some ⟨q, 0, none⟩)] w fun e w' => ∃ a c, e = .returned (.slice a M c) ∧ Ints w' a (tagsOf its) ∧ RowKit.Below w.heap.size w w' :=
  (tags_any h hm).mono fun e w' ⟨a, c, h1, h2, h3⟩ => ⟨a, c, by rw [h1, tagsOf_len, hM], h2, h3⟩
/-- Whether t stands among the first of a list. -/
def foundTo (t tag : Int) (b : Bool) (xs : List Int) (j : Nat) : Bool := (t == tag && b) || (xs.take j).any (fun u => t == u)
theorem foundTo_succ {t tag : Int} {b : Bool} {xs : List Int} {j : Nat} {u : Int} (hu : xs[j]? = some u) : (foundTo t tag b xs j || t == u) = foundTo t tag b xs (j + 1) := by
  unfold foundTo
  rw [List.take_add_one, hu, List.any_append]
  simp [Bool.or_assoc]

set_option maxHeartbeats 4000000 in
theorem queueCancel_walk (la : Option Addr) (lc : Nat) (ls : List ActC) (z : Nat) (w : World) (h : Acts w la ls) (hm : (ls.length : Int) ≤ 17592186044416) (hz : z ≤ 255) :
    Calls Tryd.prog 15 #[.slice la ls.length lc, .int .u8 (z : Nat)] w fun e w' => e = .returned (.bool true) ∧ RowKit.Below w.heap.size w w' := by
  have HH := Lib.hid h
  clear h
  go_enter Tryd.func15, Tryd.ntmps15
  go_wp2_with fail
  refine (awake41_any _).mono ?_
  rintro e w1 ⟨rfl, hB1⟩
  go_wp2_with fail
  refine (large_any la lc ls _ (HH.out.mono hB1) hm).mono ?_
  rintro e w2 ⟨⟨lb, rfl, hb⟩, hB2⟩
  have hB02 := hB1.trans (hB2.mono hB1.size)
  cases lb with
  | true =>
    clear hb
    go_wp2_with fail
    go_ret
    exact ⟨rfl, hB02⟩
  | false =>
    have h150 := hb rfl
    have HA2 := Lib.hid (HH.out.mono hB02)
    clear hb
    go_wp2_with fail
    refine (AW.new _).mono ?_
    rintro e w3 ⟨q, m1, m2, rfl, h3⟩
    have P0 := Lib.hid (PW.new h3)
    generalize hR : w3.heap.size = R at P0
    have HR := Lib.hid hR
    clear h3 hR
    go_wp2_with fail
    rw [HR.out]
    go_loopg [8, 29] (ls.length) (fun g _ i wr => ∃ k n tv its sv jts, k ≤ ls.length ∧ g = ls.length - k ∧ i = .int .i64 (k : Nat) ∧ n ≤ k ∧ its.length ≤ k ∧ PW w2 wr q m1 m2 n tv its R sv jts ∧ Eqv its jts)
    case atStart => exact ⟨0, 0, _, [], _, [], Nat.zero_le _, by simp, rfl, Nat.le_refl _, Nat.le_refl _, P0.out, eqv_nil⟩
    case round =>
      obtain ⟨k, n, tv, its, sv, jts, hk, rfl, rfl, hn, hil, hP, hE⟩ := hrel
      have HP := Lib.hid hP
      have HE := Lib.hid hE
      have hB2r := hP.bel
      have hBr := hB02.trans (hB2r.mono hB02.size)
      clear hP hE
      by_cases hkl : k < ls.length
      · obtain ⟨x, hx⟩ : ∃ x, ls[k]? = some x := ⟨_, List.getElem?_eq_getElem hkl⟩
        obtain ⟨b, o, rfl, hcs⟩ := HA2.out.2 (by omega)
        obtain ⟨t0, t1, t2, t3, t4, t5, t6, t7, t8, t9, t10⟩ := (hcs k x hx).mono hB2r
        have HX := Lib.hid (HA2.out.1 k x hx)
        have hb4 := below_box wr (actArr x.kind x.K x.c) 44
        have C := Lib.hid (do_any (HP.out.grow hb4) HE.out x.kind x.K x.c HX.out.1 HX.out.2 (by omega) (by omega))
        clear hcs hx hb4
        go_wp2_with fail
        refine C.out.mono ?_
        rintro e w4 ⟨rfl, ⟨n', tv', its', sv', jts', hn', hP4, hE4, hS4⟩, hT4⟩
        have P4 := Lib.hid hP4
        have E4 := Lib.hid hE4
        have hl4 := hS4.len
        clear hP4 hE4 hS4 hT4 C t0 t1 t2 t3 t4 t5 t6 t7 t8 t9 t10
        go_wp2
        go_roundg (ls.length - (k + 1))
        case measure => omega
        case rel => exact ⟨k + 1, n', tv', its', sv', jts', by omega, rfl, by go_num, by omega, by omega, P4.out, E4.out⟩
      · have A0 := Lib.hid HP.out.a
        cases hlen : its.length with
        | zero =>
          have CT := Lib.hid (tagsLen A0.out.qa (by omega) hlen)
          clear hlen
          go_wp2_with fail
          refine CT.out.mono ?_
          rintro e w5 ⟨a5, c5, rfl, hI5, hb5⟩
          have hB5 := hBr.trans (hb5.mono hBr.size)
          clear CT hI5
          go_wp2_with fail
          go_ret
          exact ⟨rfl, hB5⟩
        | succ M =>
          have CT := Lib.hid (tagsLen A0.out.qa (by omega) hlen)
          have hM : M < 151 := by omega
          have HLEN := Lib.hid hlen
          have hmod : Int.tmod (z : Int) ((M : Int) + 1) = ((z % (M + 1) : Nat) : Int) := by rw [Int.tmod_eq_emod_of_nonneg (Int.natCast_nonneg z)]; simp
          have hj : z % (M + 1) < M + 1 := Nat.mod_lt _ (by omega)
          clear hlen
          go_wp2_with fail
          refine CT.out.mono ?_
          rintro e w5 ⟨a5, c5, rfl, hI5, hb5⟩
          have hB5 := hBr.trans (hb5.mono hBr.size)
          have A5 := Lib.hid (A0.out.grow hb5)
          obtain ⟨y, hy⟩ : ∃ y, its[z % (M + 1)]? = some y := ⟨_, List.getElem?_eq_getElem (by rw [HLEN.out]; exact hj)⟩
          obtain ⟨ab, ao, rfl, hac⟩ := hI5 (by rw [tagsOf_len, HLEN.out]; omega)
          have gt := hac _ _ (tagsOf_at hy)
          have HY := Lib.hid (And.intro (List.mem_of_getElem? hy) (List.mem_of_getElem? (tagsOf_at hy)))
          have HWF := Lib.hid (A5.out.qa.ok y HY.out.1).2
          have HTY : Hid (hasTag its y.1.tag = true) := List.any_eq_true.2 ⟨y, HY.out.1, by simp⟩
          generalize z % (M + 1) = jz at hj gt hmod
          have hjz : (jz : Int) < (M : Int) + 1 := by omega
          clear CT hI5 hac hy
          have CE := Lib.hid (eligible_any A5.out.qa (by omega))
          go_wp2_with fail
          refine CE.out.mono ?_
          rintro e w6 ⟨a6, c6, rfl, hI6, hb6⟩
          have hB6 := hB5.trans (hb6.mono hB5.size)
          have A6 := Lib.hid (A5.out.grow hb6)
          have CS := Lib.hid (started_any A6.out.qa (by omega))
          clear CE gt
          go_wp2_with fail
          refine CS.out.mono ?_
          rintro e w7 ⟨a7, c7, rfl, hI7, hb7⟩
          have A7 := Lib.hid (A6.out.grow hb7)
          have HI6 := Lib.hid (hI6.mono hb7)
          have HI7 := Lib.hid hI7
          have hfl := eligTags_len its
          have hsl : (startedOf its).length ≤ its.length := by unfold startedOf; rw [List.length_map]; exact List.length_filter_le _ _
          have CC := Lib.hid (cancel3_any A7.out.qa HWF.out (by omega))
          clear CS hI6 hI7
          cases hst : stB its y.1.tag with
          | false =>
            have HRE : Hid (removeE its y.1.tag false = 0) := by show removeE its y.1.tag false = 0; simp [removeE, HTY.out, hst]
            have HST := Lib.hid hst
            clear hst
            go_wp2_with fail
            refine CC.out.mono ?_
            rintro e w8 ⟨he8, ht8, hz8, hy8⟩
            rw [HRE.out] at he8
            subst he8
            have HI8 := Lib.hid (Ints.turn3 A7.out.qa ht8 HI6.out)
            have HS8 := Lib.hid (Ints.turn3 A7.out.qa ht8 HI7.out)
            obtain ⟨tv8, hq8, hF8⟩ := hy8 HRE.out
            have A8 := Lib.hid (A7.out.turn (ht8.wide3 tv) hq8 hF8)
            clear CC ht8 hz8 hy8
            have hxl : (removed its y.1.tag).length = M := (by have := removed_len A7.out.qa.nod HY.out.2; rw [HLEN.out] at this; omega)
            have HXL := Lib.hid hxl
            have hfl8 := eligTags_len (removed its y.1.tag)
            have hfl9 : (eligTags (removed its y.1.tag)).length ≤ 151 := by omega
            have CE8 := Lib.hid (eligible_any A8.out.qa (by omega))
            have HK : Hid (∀ t ∈ eligTags its, (t == y.1.tag && true) = true ∨ t ∈ eligTags (removed its y.1.tag)) := fun t ht => ((Classical.em (t = y.1.tag)).elim (fun hty => Or.inl (by simp [hty])) (fun hty => Or.inr (elig_removed ht hty)))
            have HSS : Hid (startedOf (removed its y.1.tag) = startedOf its) := started_removed HST.out
            clear hxl hfl8
            go_wp2_with fail
            refine CE8.out.mono ?_
            rintro e w9 ⟨a9, c9, rfl, hI9, hb9⟩
            have A9 := Lib.hid (A8.out.grow hb9)
            have HI9 := Lib.hid hI9
            have HI89 := Lib.hid (HI8.out.mono hb9)
            have HS89 := Lib.hid (HS8.out.mono hb9)
            clear CE8 hI9
            go_wp2_with fail
            generalize hEB : eligTags its = bs at HI89 HK hfl
            generalize hEA : eligTags (removed its y.1.tag) = fs at HI9 HK hfl9
            clear hEB hEA
            go_loopg [16, 17, 19, 62, 75] (bs.length) (fun g _ _ _ i _ wx => ∃ j, j ≤ bs.length ∧ g = bs.length - j ∧ i = .int .i64 (j : Nat) ∧ wx = w9)
            case atStart => exact ⟨0, Nat.zero_le _, by simp, rfl, rfl⟩
            case round =>
              obtain ⟨j, hj2, rfl, rfl, hwx⟩ := hrel
              subst hwx
              by_cases hjl : j < bs.length
              · obtain ⟨t, ht⟩ : ∃ t, bs[j]? = some t := ⟨_, List.getElem?_eq_getElem hjl⟩
                obtain ⟨bb, bo, rfl, hbc⟩ := HI89.out (by omega)
                have gt := hbc j t ht
                have HKT := Lib.hid (HK.out t (List.mem_of_getElem? ht))
                clear hbc ht
                by_cases hty : t = y.1.tag
                · have hbt : (t == y.1.tag) = true := by simpa using hty
                  clear hty
                  go_wp2_with fail
                  have hval0 : Hid ((true || (fs.take 0).any (fun u => t == u)) = true) := by show _ = _; simp
                  go_loopg [17, 19, 75] (fs.length) (fun g v _ i wx => ∃ m, m ≤ fs.length ∧ g = fs.length - m ∧ i = .int .i64 (m : Nat) ∧ v = .bool (true || (fs.take m).any (fun u => t == u)) ∧ wx = wr)
                  case atStart => exact ⟨0, Nat.zero_le _, by simp, rfl, by rw [hval0.out], rfl⟩
                  case round =>
                    obtain ⟨m, hm2, rfl, rfl, hv, hwy⟩ := hrel
                    subst hwy
                    by_cases hml : m < fs.length
                    · obtain ⟨u, hu⟩ : ∃ u, fs[m]? = some u := ⟨_, List.getElem?_eq_getElem hml⟩
                      obtain ⟨cb, co, rfl, hcc⟩ := HI9.out (by omega)
                      have gu := hcc m u hu
                      have HN : Hid ((true || (fs.take (m + 1)).any (fun u => t == u)) = ((true || (fs.take m).any (fun u => t == u)) || t == u)) := by show _ = _; rw [List.take_add_one, hu, List.any_append]; simp [Bool.or_assoc]
                      clear hcc hu
                      cases hx : (true || (fs.take m).any (fun u => t == u)) with
                      | true =>
                        rw [hx] at hv HN
                        subst hv
                        clear hx
                        go_wp2
                        go_roundg (fs.length - (m + 1))
                        case measure => omega
                        case rel => exact ⟨m + 1, by omega, rfl, by go_num, by rw [HN.out]; rfl, rfl⟩
                      | false =>
                        rw [hx] at hv HN
                        subst hv
                        clear hx
                        go_wp2
                        go_roundg (fs.length - (m + 1))
                        case measure => omega
                        case rel => exact ⟨m + 1, by omega, rfl, by go_num, by rw [HN.out]; simp, rfl⟩
                    · have hval : (true || (fs.take m).any (fun u => t == u)) = true := by
                        rw [List.take_of_length_le (by omega)]
                        exact rfl
                      rw [hval] at hv
                      subst hv
                      clear hval
                      go_wp2
                      go_roundg (bs.length - (j + 1))
                      case measure => omega
                      case rel => exact ⟨j + 1, by omega, rfl, by go_num, rfl⟩
                · have hbt : (t == y.1.tag) = false := by simpa using hty
                  have HT : Hid (t ∈ fs) := by
                    rcases HKT.out with h | h
                    · rw [hbt] at h; cases h
                    · exact h
                  clear hty
                  go_wp2_with fail
                  have hval0 : Hid ((false || (fs.take 0).any (fun u => t == u)) = false) := by show _ = _; simp
                  go_loopg [17, 19, 75] (fs.length) (fun g v _ i wx => ∃ m, m ≤ fs.length ∧ g = fs.length - m ∧ i = .int .i64 (m : Nat) ∧ v = .bool (false || (fs.take m).any (fun u => t == u)) ∧ wx = wr)
                  case atStart => exact ⟨0, Nat.zero_le _, by simp, rfl, by rw [hval0.out], rfl⟩
                  case round =>
                    obtain ⟨m, hm2, rfl, rfl, hv, hwy⟩ := hrel
                    subst hwy
                    by_cases hml : m < fs.length
                    · obtain ⟨u, hu⟩ : ∃ u, fs[m]? = some u := ⟨_, List.getElem?_eq_getElem hml⟩
                      obtain ⟨cb, co, rfl, hcc⟩ := HI9.out (by omega)
                      have gu := hcc m u hu
                      have HN : Hid ((false || (fs.take (m + 1)).any (fun u => t == u)) = ((false || (fs.take m).any (fun u => t == u)) || t == u)) := by show _ = _; rw [List.take_add_one, hu, List.any_append]; simp [Bool.or_assoc]
                      clear hcc hu
                      cases hx : (false || (fs.take m).any (fun u => t == u)) with
                      | true =>
                        rw [hx] at hv HN
                        subst hv
                        clear hx
                        go_wp2
                        go_roundg (fs.length - (m + 1))
                        case measure => omega
                        case rel => exact ⟨m + 1, by omega, rfl, by go_num, by rw [HN.out]; rfl, rfl⟩
                      | false =>
                        rw [hx] at hv HN
                        subst hv
                        clear hx
                        go_wp2
                        go_roundg (fs.length - (m + 1))
                        case measure => omega
                        case rel => exact ⟨m + 1, by omega, rfl, by go_num, by rw [HN.out]; simp, rfl⟩
                    · have hval : (false || (fs.take m).any (fun u => t == u)) = true := by
                        rw [List.take_of_length_le (by omega)]
                        exact (by rw [List.any_eq_true.2 ⟨t, HT.out, by simp⟩]; rfl)
                      rw [hval] at hv
                      subst hv
                      clear hval
                      go_wp2
                      go_roundg (bs.length - (j + 1))
                      case measure => omega
                      case rel => exact ⟨j + 1, by omega, rfl, by go_num, rfl⟩
              · have C31 := Lib.hid (tagsLen A9.out.qa (by have := HXL.out; omega) HXL.out)
                go_wp2_with fail
                refine C31.out.mono ?_
                rintro e wa ⟨aa, ca, rfl, _, hba⟩
                have Aa := Lib.hid (A9.out.grow hba)
                have CSa := started_any Aa.out.qa (by have := HXL.out; omega)
                rw [HSS.out] at CSa
                have CSb := Lib.hid CSa
                clear CSa
                go_wp2_with fail
                refine CSb.out.mono ?_
                rintro e wb ⟨ab', cb, rfl, hIb, hbb⟩
                have HIb := Lib.hid hIb
                clear hIb
                go_wp2_with fail
                refine (same41_eqC ab' a7 cb c7 (startedOf its) _ HIb.out ((HS89.out.mono hba).mono hbb) (by omega)).mono ?_
                rintro e wc ⟨rfl, hbc⟩
                have hbz := ((Aa.out.grow hbb).grow hbc).bel
                go_wp2_with fail
                go_ret
                exact ⟨rfl, hB02.trans (hbz.mono hB02.size)⟩
          | true =>
            have HRE : Hid (removeE its y.1.tag false = 8) := by show removeE its y.1.tag false = 8; simp [removeE, HTY.out, hst]
            have HST := Lib.hid hst
            clear hst
            go_wp2_with fail
            refine CC.out.mono ?_
            rintro e w8 ⟨he8, ht8, hz8, hy8⟩
            rw [HRE.out] at he8
            subst he8
            have HI8 := Lib.hid (Ints.turn3 A7.out.qa ht8 HI6.out)
            have HS8 := Lib.hid (Ints.turn3 A7.out.qa ht8 HI7.out)
            obtain ⟨rts, hrr⟩ : ∃ rts, rts = its := ⟨its, rfl⟩
            have HRR := Lib.hid hrr
            clear hrr
            have A8 : Hid (AW w2 w8 q m1 m2 n tv rts) := by show AW _ _ _ _ _ _ _ _; rw [HRR.out]; exact A7.out.turn (ht8.wide3 tv) (hz8 (by rw [HRE.out]; decide)) (fun k hk => Or.inl hk)
            clear CC ht8 hz8 hy8
            have hxl : rts.length = (M + 1) := (by rw [HRR.out]; exact HLEN.out)
            have HXL := Lib.hid hxl
            have hfl8 := eligTags_len rts
            have hfl9 : (eligTags rts).length ≤ 151 := by omega
            have CE8 := Lib.hid (eligible_any A8.out.qa (by omega))
            have HK : Hid (∀ t ∈ eligTags its, (t == y.1.tag && false) = true ∨ t ∈ eligTags rts) := fun t ht => Or.inr (by rw [HRR.out]; exact ht)
            have HSS : Hid (startedOf rts = startedOf its) := (by show _ = _; rw [HRR.out])
            clear hxl hfl8
            go_wp2_with fail
            refine CE8.out.mono ?_
            rintro e w9 ⟨a9, c9, rfl, hI9, hb9⟩
            have A9 := Lib.hid (A8.out.grow hb9)
            have HI9 := Lib.hid hI9
            have HI89 := Lib.hid (HI8.out.mono hb9)
            have HS89 := Lib.hid (HS8.out.mono hb9)
            clear CE8 hI9
            go_wp2_with fail
            generalize hEB : eligTags its = bs at HI89 HK hfl
            generalize hEA : eligTags rts = fs at HI9 HK hfl9
            clear hEB hEA
            go_loopg [16, 17, 19, 62, 75] (bs.length) (fun g _ _ _ i _ wx => ∃ j, j ≤ bs.length ∧ g = bs.length - j ∧ i = .int .i64 (j : Nat) ∧ wx = w9)
            case atStart => exact ⟨0, Nat.zero_le _, by simp, rfl, rfl⟩
            case round =>
              obtain ⟨j, hj2, rfl, rfl, hwx⟩ := hrel
              subst hwx
              by_cases hjl : j < bs.length
              · obtain ⟨t, ht⟩ : ∃ t, bs[j]? = some t := ⟨_, List.getElem?_eq_getElem hjl⟩
                obtain ⟨bb, bo, rfl, hbc⟩ := HI89.out (by omega)
                have gt := hbc j t ht
                have HKT := Lib.hid (HK.out t (List.mem_of_getElem? ht))
                clear hbc ht
                have HT : Hid (t ∈ fs) := by
                  rcases HKT.out with h | h
                  · rw [Bool.and_false] at h; cases h
                  · exact h
                by_cases hty : t = y.1.tag
                · have hbt : (t == y.1.tag) = true := by simpa using hty
                  clear hty
                  go_wp2_with fail
                  have hval0 : Hid ((false || (fs.take 0).any (fun u => t == u)) = false) := by show _ = _; simp
                  go_loopg [17, 19, 75] (fs.length) (fun g v _ i wx => ∃ m, m ≤ fs.length ∧ g = fs.length - m ∧ i = .int .i64 (m : Nat) ∧ v = .bool (false || (fs.take m).any (fun u => t == u)) ∧ wx = wr)
                  case atStart => exact ⟨0, Nat.zero_le _, by simp, rfl, by rw [hval0.out], rfl⟩
                  case round =>
                    obtain ⟨m, hm2, rfl, rfl, hv, hwy⟩ := hrel
                    subst hwy
                    by_cases hml : m < fs.length
                    · obtain ⟨u, hu⟩ : ∃ u, fs[m]? = some u := ⟨_, List.getElem?_eq_getElem hml⟩
                      obtain ⟨cb, co, rfl, hcc⟩ := HI9.out (by omega)
                      have gu := hcc m u hu
                      have HN : Hid ((false || (fs.take (m + 1)).any (fun u => t == u)) = ((false || (fs.take m).any (fun u => t == u)) || t == u)) := by show _ = _; rw [List.take_add_one, hu, List.any_append]; simp [Bool.or_assoc]
                      clear hcc hu
                      cases hx : (false || (fs.take m).any (fun u => t == u)) with
                      | true =>
                        rw [hx] at hv HN
                        subst hv
                        clear hx
                        go_wp2
                        go_roundg (fs.length - (m + 1))
                        case measure => omega
                        case rel => exact ⟨m + 1, by omega, rfl, by go_num, by rw [HN.out]; rfl, rfl⟩
                      | false =>
                        rw [hx] at hv HN
                        subst hv
                        clear hx
                        go_wp2
                        go_roundg (fs.length - (m + 1))
                        case measure => omega
                        case rel => exact ⟨m + 1, by omega, rfl, by go_num, by rw [HN.out]; simp, rfl⟩
                    · have hval : (false || (fs.take m).any (fun u => t == u)) = true := by
                        rw [List.take_of_length_le (by omega)]
                        exact (by rw [List.any_eq_true.2 ⟨t, HT.out, by simp⟩]; rfl)
                      rw [hval] at hv
                      subst hv
                      clear hval
                      go_wp2
                      go_roundg (bs.length - (j + 1))
                      case measure => omega
                      case rel => exact ⟨j + 1, by omega, rfl, by go_num, rfl⟩
                · have hbt : (t == y.1.tag) = false := by simpa using hty
                  clear hty
                  go_wp2_with fail
                  have hval0 : Hid ((false || (fs.take 0).any (fun u => t == u)) = false) := by show _ = _; simp
                  go_loopg [17, 19, 75] (fs.length) (fun g v _ i wx => ∃ m, m ≤ fs.length ∧ g = fs.length - m ∧ i = .int .i64 (m : Nat) ∧ v = .bool (false || (fs.take m).any (fun u => t == u)) ∧ wx = wr)
                  case atStart => exact ⟨0, Nat.zero_le _, by simp, rfl, by rw [hval0.out], rfl⟩
                  case round =>
                    obtain ⟨m, hm2, rfl, rfl, hv, hwy⟩ := hrel
                    subst hwy
                    by_cases hml : m < fs.length
                    · obtain ⟨u, hu⟩ : ∃ u, fs[m]? = some u := ⟨_, List.getElem?_eq_getElem hml⟩
                      obtain ⟨cb, co, rfl, hcc⟩ := HI9.out (by omega)
                      have gu := hcc m u hu
                      have HN : Hid ((false || (fs.take (m + 1)).any (fun u => t == u)) = ((false || (fs.take m).any (fun u => t == u)) || t == u)) := by show _ = _; rw [List.take_add_one, hu, List.any_append]; simp [Bool.or_assoc]
                      clear hcc hu
                      cases hx : (false || (fs.take m).any (fun u => t == u)) with
                      | true =>
                        rw [hx] at hv HN
                        subst hv
                        clear hx
                        go_wp2
                        go_roundg (fs.length - (m + 1))
                        case measure => omega
                        case rel => exact ⟨m + 1, by omega, rfl, by go_num, by rw [HN.out]; rfl, rfl⟩
                      | false =>
                        rw [hx] at hv HN
                        subst hv
                        clear hx
                        go_wp2
                        go_roundg (fs.length - (m + 1))
                        case measure => omega
                        case rel => exact ⟨m + 1, by omega, rfl, by go_num, by rw [HN.out]; simp, rfl⟩
                    · have hval : (false || (fs.take m).any (fun u => t == u)) = true := by
                        rw [List.take_of_length_le (by omega)]
                        exact (by rw [List.any_eq_true.2 ⟨t, HT.out, by simp⟩]; rfl)
                      rw [hval] at hv
                      subst hv
                      clear hval
                      go_wp2
                      go_roundg (bs.length - (j + 1))
                      case measure => omega
                      case rel => exact ⟨j + 1, by omega, rfl, by go_num, rfl⟩
              · have C31 := Lib.hid (tagsLen A9.out.qa (by have := HXL.out; omega) HXL.out)
                go_wp2_with fail
                refine C31.out.mono ?_
                rintro e wa ⟨aa, ca, rfl, _, hba⟩
                have Aa := Lib.hid (A9.out.grow hba)
                have CSa := started_any Aa.out.qa (by have := HXL.out; omega)
                rw [HSS.out] at CSa
                have CSb := Lib.hid CSa
                clear CSa
                go_wp2_with fail
                refine CSb.out.mono ?_
                rintro e wb ⟨ab', cb, rfl, hIb, hbb⟩
                have HIb := Lib.hid hIb
                clear hIb
                go_wp2_with fail
                refine (same41_eqC ab' a7 cb c7 (startedOf its) _ HIb.out ((HS89.out.mono hba).mono hbb) (by omega)).mono ?_
                rintro e wc ⟨rfl, hbc⟩
                have hbz := ((Aa.out.grow hbb).grow hbc).bel
                go_wp2_with fail
                go_ret
                exact ⟨rfl, hB02.trans (hbz.mono hB02.size)⟩
theorem queueCancel_of (la : Option Addr) (lc : Nat) (ls : List ActC) (z1 : Int) (w : World) (h : Acts w la ls) (hm : (ls.length : Int) ≤ 17592186044416) (hz : (Lit.int .u8 z1).wf = true) :
    Calls Tryd.prog 15 #[.slice la ls.length lc, .int .u8 z1] w fun e w' => e = .returned (.bool true) ∧ RowKit.Below w.heap.size w w' := by
  have hb := bounds_u8 hz
  obtain ⟨z, rfl⟩ := Int.eq_ofNat_of_zero_le hb.1
  exact queueCancel_walk la lc ls z w h hm (by omega)
end Go.Proofs.YtfbafjlhdbjgoaaDoor
