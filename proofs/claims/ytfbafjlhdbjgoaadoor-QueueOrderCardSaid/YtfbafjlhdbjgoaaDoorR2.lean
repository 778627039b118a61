/- The reference queue: eligible, Eligible, Tags. -/
import Derived.Test.YtfbafjlhdbjgoaaDoorR1
namespace Go.Proofs.YtfbafjlhdbjgoaaDoor
set_option linter.unusedVariables false
set_option linter.unusedSimpArgs false
open Go.RowKit Go.Sort
set_option maxRecDepth 100000

theorem anyB_succ {its : List QItem} {k : Nat} {x y : QItem} (hx : its[k]? = some x) (h : ((its.take k).any fun x => beforeB x.1 y.1) = false) (hb : beforeB x.1 y.1 = false) : ((its.take (k + 1)).any fun x => beforeB x.1 y.1) = false := by
  rw [List.take_add_one, hx]
  simp only [Option.toList, List.any_append, h, List.any_cons, hb, List.any_nil, Bool.or_false]
theorem anyB_hit {its : List QItem} {k i : Nat} {x y : QItem} (hx : its[k]? = some x) (hk : k < i) (hb : beforeB x.1 y.1 = true) : ((its.take i).any fun x => beforeB x.1 y.1) = true :=
  List.any_eq_true.2 ⟨x, List.mem_of_getElem? (i := k) (by rw [List.getElem?_take, if_pos hk]; exact hx), hb⟩

set_option maxHeartbeats 4000000 in
theorem relig_any {w : World} {r : Nat} {sv : Value} {its : List QItem} (h : RAt w r sv its) {i : Nat} {y : QItem} (hy : its[i]? = some y) (hm : its.length ≤ 1000000) :
    Calls Tryd.prog 71 #[.pointer (some ⟨r, 0, none⟩), .int .i64 (i : Nat)] w fun e w' => e = .returned (.bool (eligIt its i y)) ∧ RowKit.Below w.heap.size w w' := by
  obtain ⟨a, c, rfl, hI⟩ := h.items
  have hil := (List.getElem?_eq_some_iff.1 hy).1
  obtain ⟨b, o, rfl, hcs⟩ := hI (by omega)
  have r0 := h.r0
  have OK := Lib.hid h.ok
  have HY := Lib.hid hy
  have HCS := Lib.hid hcs
  clear h hI hy hcs
  go_enter Tryd.func71, Tryd.ntmps71
  go_wp2
  go_loopg [5] i (fun g j wr => ∃ k, k ≤ i ∧ g = i - k ∧ j = .int .i64 (k : Nat) ∧ ((its.take k).any fun x => beforeB x.1 y.1) = false ∧ RowKit.Below w.heap.size w wr)
  case atStart => exact ⟨0, Nat.zero_le _, by simp, rfl, by simp, RowKit.Below.refl _ _⟩
  case round =>
    obtain ⟨k, hk, rfl, rfl, hT, hB⟩ := hrel
    have HT := Lib.hid hT
    clear hT
    by_cases hkl : k < i
    · obtain ⟨x, hx⟩ : ∃ x, its[k]? = some x := ⟨_, List.getElem?_eq_getElem (by omega)⟩
      have ox := (OK.out x (List.mem_of_getElem? hx)).1.mono hB
      have oy := (OK.out y (List.mem_of_getElem? HY.out)).1.mono hB
      obtain ⟨t0, t1, t2, t3, t4, t5, t6, t7, t8⟩ := ((HCS.out k x hx).1.mono hB).grown
      obtain ⟨s0, s1, s2, s3, s4, s5, s6, s7, s8⟩ := ((HCS.out i y HY.out).1.mono hB).grown
      have rr := cell_regrown (cell_keep hB r0)
      have hkl2 : k < its.length := by omega
      have C20 := reg_below (wr := wr) fun W hW => refBefore_any x.1 y.1 W (ox.mono hW) (oy.mono hW)
      have HX := Lib.hid hx
      clear hx ox oy
      cases hb : beforeB x.1 y.1 with
      | true =>
        rw [hb] at C20
        have C20 := Lib.hid C20
        have HE : Hid (eligIt its i y = false) := by show eligIt its i y = false; unfold eligIt; rw [anyB_hit HX.out hkl hb]; simp
        clear hb
        go_wp2_with fail
        refine wp_region_quiet_below (by kernel_rfl) (by kernel_rfl) ?_
        repeat (go_big_quiet_step ((go_at_call 20; exact C20.out _ _)))
        refine wpQuiet_nil ?_
        intro _ hw'
        obtain ⟨⟨d, os⟩, hw''⟩ := hw'
        subst hw''
        have hB2 : RowKit.Below w.heap.size w (grow (redrawn wr d) os) := hB.trans ((below_regrown wr d os).mono hB.size)
        generalize grow (redrawn wr d) os = w2 at hB2 ⊢
        clear t0 t1 t2 t3 t4 t5 t6 t7 t8 s0 s1 s2 s3 s4 s5 s6 s7 s8 rr
        go_wp2
        go_ret
        exact ⟨ret_bool HE.out.symm, hB2⟩
      | false =>
        rw [hb] at C20
        have C20 := Lib.hid C20
        have HN := Lib.hid (anyB_succ HX.out HT.out hb)
        clear hb
        go_wp2_with fail
        refine wp_region_quiet_below (by kernel_rfl) (by kernel_rfl) ?_
        repeat (go_big_quiet_step ((go_at_call 20; exact C20.out _ _)))
        refine wpQuiet_nil ?_
        intro _ hw'
        obtain ⟨⟨d, os⟩, hw''⟩ := hw'
        subst hw''
        have hB2 : RowKit.Below w.heap.size w (grow (redrawn wr d) os) := hB.trans ((below_regrown wr d os).mono hB.size)
        generalize grow (redrawn wr d) os = w2 at hB2 ⊢
        clear t0 t1 t2 t3 t4 t5 t6 t7 t8 s0 s1 s2 s3 s4 s5 s6 s7 s8 rr
        go_wp2
        go_roundg (i - (k + 1))
        case measure => omega
        case rel => exact ⟨k + 1, by omega, rfl, by go_num, HN.out, hB2⟩
    · have hki : k = i := by omega
      have HE : Hid ((!y.2) = eligIt its i y) := by
        show (!y.2) = eligIt its i y
        have := HT.out
        rw [hki] at this
        unfold eligIt
        rw [this]
        simp
      have g9 := cell_keep hB (HCS.out i y HY.out).2
      have rr := cell_keep hB r0
      clear hki
      go_wp2
      go_ret
      exact ⟨ret_bool HE.out, hB⟩

set_option maxHeartbeats 2000000 in
theorem rEligible_any {w : World} {r : Nat} {sv : Value} {its : List QItem} (h : RAt w r sv its) (hm : its.length ≤ 1000000) :
    Calls Tryd.prog 46 #[.pointer (some ⟨r, 0, none⟩)] w fun e w' => RetInts (eligTags its) w e w' := by
  obtain ⟨i0, hi, hz0, hz1, hz2⟩ := info_parts info3
  obtain ⟨a, c, rfl, hI⟩ := h.items
  have r0 := h.r0
  have HI := Lib.hid hI
  have H := Lib.hid h
  clear h hI
  go_enter Tryd.func46, Tryd.ntmps46
  go_wp2
  go_loopg [3, 4] (its.length) (fun g out i wr => ∃ k, k ≤ its.length ∧ g = its.length - k ∧ i = .int .i64 (k : Nat) ∧ OwnI w.heap.size w out (filtTo (fun i _ => eligI its i) (tagsOf its) k) wr)
  case atStart => exact ⟨0, Nat.zero_le _, by simp, rfl, OwnI.start w⟩
  case round =>
    obtain ⟨k, hk, rfl, rfl, hown⟩ := hrel
    obtain ⟨wo, hwo⟩ : ∃ wo, wo = wr := ⟨_, rfl⟩
    subst hwo
    have rr := cell_keep hown.bel r0
    by_cases hkl : k < its.length
    · obtain ⟨y, hy⟩ : ∃ y, its[k]? = some y := ⟨_, List.getElem?_eq_getElem hkl⟩
      obtain ⟨b, o, rfl, hcs⟩ := HI.out (by omega)
      have gx0 := (hcs k y hy).1.1
      have hlen := filtTo_len (fun i _ => eligI its i) (tagsOf its) k
      have C := Lib.hid (relig_any (H.out.grow hown.bel) hy hm)
      have HP : Hid (eligI its k = eligIt its k y) := eligI_some hy
      have HY := Lib.hid hy
      clear hcs hy
      go_wp2_with fail
      refine C.out.mono ?_
      rintro e w1 ⟨rfl, hB1⟩
      have hown1 : OwnI w.heap.size w u3 (filtTo (fun i _ => eligI its i) (tagsOf its) k) w1 := ⟨own_below hown.own hB1, hown.bel.trans (hB1.mono hown.bel.size), hown.size⟩
      have rr1 := cell_keep hown1.bel r0
      have gx1 := cell_keep hown1.bel gx0
      cases hpx : eligIt its k y with
      | true =>
        have HN := Lib.hid (filtTo_yes (p := fun i _ => eligI its i) (tagsOf_at HY.out) (HP.out.trans hpx))
        clear hpx hown rr C
        go_wp2_with (at_builtin; refine wpList_append_own _ rfl _ _ 31 rfl w.heap.size 3 i0 (.int .i64 0) 1 8 Tryd.underlying31 hi hz0 hz1 hz2 rfl (by decide) _ _ _ rfl (hown1.own.alloc _) ⟨w1.heap.size, 0, none⟩ 1 1 [.int .i64 y.1.tag] rfl rfl ?c1 ?c2 ?c3 ?c4 ?c5 ?_)
        case c1 => exact cell_new_one _ _ _
        case c2 => intro u hu; simp at hu; subst hu; rfl
        case c3 => unfold maxLen; omega
        case c4 => omega
        case c5 => have := hown1.bel.size; simp; omega
        intro v' w4 hown' hgrow' _
        have hR := hown1.add hown' hgrow'
        clear hown' hgrow' rr1 gx1
        go_wp2
        go_roundg (its.length - (k + 1))
        case measure => omega
        case rel => exact ⟨k + 1, by omega, rfl, by go_num, by rw [HN.out]; exact hR⟩
      | false =>
        have HN := Lib.hid (filtTo_no (p := fun i _ => eligI its i) (tagsOf_at HY.out) (HP.out.trans hpx))
        clear hpx hown rr C
        go_wp2
        go_roundg (its.length - (k + 1))
        case measure => omega
        case rel => exact ⟨k + 1, by omega, rfl, by go_num, by rw [HN.out]; exact hown1⟩
    · have hkk : k = its.length := by omega
      subst hkk
      obtain ⟨a', c', rfl, hI'⟩ := ownsInts hown.own
      have hb := hown.bel
      clear hown
      go_wp2
      go_ret
      exact ⟨a', c', rfl, hI', hb⟩


set_option maxHeartbeats 2000000 in
theorem rtags_all {w : World} {r : Nat} {sv : Value} {its : List QItem} (h : RAt w r sv its) (hm : its.length ≤ 1000000) :
    Calls Tryd.prog 45 #[.pointer (some ⟨r, 0, none⟩), .bool false] w fun e w' => RetInts (filtTo (fun _ _ => true) (tagsOf its) its.length) w e w' := by
  obtain ⟨i0, hi, hz0, hz1, hz2⟩ := info_parts info3
  obtain ⟨a, c, rfl, hI⟩ := h.items
  have r0 := h.r0
  have HI := Lib.hid hI
  have H := Lib.hid h
  clear h hI
  go_enter Tryd.func45, Tryd.ntmps45
  go_wp2
  go_loopg [5, 6] (its.length) (fun g out i wr => ∃ k, k ≤ its.length ∧ g = its.length - k ∧ i = .int .i64 (k : Nat) ∧ OwnI w.heap.size w out (filtTo (fun _ _ => true) (tagsOf its) k) wr)
  case atStart => exact ⟨0, Nat.zero_le _, by simp, rfl, OwnI.start w⟩
  case round =>
    obtain ⟨k, hk, rfl, rfl, hown1⟩ := hrel
    obtain ⟨wo, hwo⟩ : ∃ wo, wo = wr := ⟨_, rfl⟩
    subst hwo
    have rr := cell_keep hown1.bel r0
    by_cases hkl : k < its.length
    · obtain ⟨y, hy⟩ : ∃ y, its[k]? = some y := ⟨_, List.getElem?_eq_getElem hkl⟩
      obtain ⟨b, o, rfl, hcs⟩ := HI.out (by omega)
      have gx0 := cell_keep hown1.bel (hcs k y hy).1.1
      have gx9 := cell_keep hown1.bel (hcs k y hy).2
      have hlen := filtTo_len (fun _ _ => true) (tagsOf its) k
      have HP : Hid (stB its y.1.tag = y.2) := stB_of H.out.nod (List.mem_of_getElem? hy)
      have HY := Lib.hid hy
      clear hcs hy
      have HN := Lib.hid (filtTo_yes (p := fun _ _ => true) (tagsOf_at HY.out) rfl)
      go_wp2_with (at_builtin; refine wpList_append_own _ rfl _ _ 31 rfl w.heap.size 3 i0 (.int .i64 0) 1 8 Tryd.underlying31 hi hz0 hz1 hz2 rfl (by decide) _ _ _ rfl (hown1.own.alloc _) ⟨wo.heap.size, 0, none⟩ 1 1 [.int .i64 y.1.tag] rfl rfl ?c1 ?c2 ?c3 ?c4 ?c5 ?_)
      case c1 => exact cell_new_one _ _ _
      case c2 => intro u hu; simp at hu; subst hu; rfl
      case c3 => unfold maxLen; omega
      case c4 => omega
      case c5 => have := hown1.bel.size; simp; omega
      intro v' w4 hown' hgrow' _
      have hR := hown1.add hown' hgrow'
      clear hown' hgrow' rr
      go_wp2
      go_roundg (its.length - (k + 1))
      case measure => omega
      case rel => exact ⟨k + 1, by omega, rfl, by go_num, by rw [HN.out]; exact hR⟩
    · have hkk : k = its.length := by omega
      subst hkk
      obtain ⟨a', c', rfl, hI'⟩ := ownsInts hown1.own
      have hb := hown1.bel
      clear hown1
      go_wp2
      go_ret
      exact ⟨a', c', rfl, hI', hb⟩

set_option maxHeartbeats 2000000 in
theorem rtags_st {w : World} {r : Nat} {sv : Value} {its : List QItem} (h : RAt w r sv its) (hm : its.length ≤ 1000000) :
    Calls Tryd.prog 45 #[.pointer (some ⟨r, 0, none⟩), .bool true] w fun e w' => RetInts (filtTo (fun _ x => stB its x) (tagsOf its) its.length) w e w' := by
  obtain ⟨i0, hi, hz0, hz1, hz2⟩ := info_parts info3
  obtain ⟨a, c, rfl, hI⟩ := h.items
  have r0 := h.r0
  have HI := Lib.hid hI
  have H := Lib.hid h
  clear h hI
  go_enter Tryd.func45, Tryd.ntmps45
  go_wp2
  go_loopg [5, 6] (its.length) (fun g out i wr => ∃ k, k ≤ its.length ∧ g = its.length - k ∧ i = .int .i64 (k : Nat) ∧ OwnI w.heap.size w out (filtTo (fun _ x => stB its x) (tagsOf its) k) wr)
  case atStart => exact ⟨0, Nat.zero_le _, by simp, rfl, OwnI.start w⟩
  case round =>
    obtain ⟨k, hk, rfl, rfl, hown1⟩ := hrel
    obtain ⟨wo, hwo⟩ : ∃ wo, wo = wr := ⟨_, rfl⟩
    subst hwo
    have rr := cell_keep hown1.bel r0
    by_cases hkl : k < its.length
    · obtain ⟨y, hy⟩ : ∃ y, its[k]? = some y := ⟨_, List.getElem?_eq_getElem hkl⟩
      obtain ⟨b, o, rfl, hcs⟩ := HI.out (by omega)
      have gx0 := cell_keep hown1.bel (hcs k y hy).1.1
      have gx9 := cell_keep hown1.bel (hcs k y hy).2
      have hlen := filtTo_len (fun _ x => stB its x) (tagsOf its) k
      have HP : Hid (stB its y.1.tag = y.2) := stB_of H.out.nod (List.mem_of_getElem? hy)
      have HY := Lib.hid hy
      clear hcs hy
      cases hpx : y.2 with
      | true =>
        have HN := Lib.hid (filtTo_yes (p := fun _ x => stB its x) (tagsOf_at HY.out) (HP.out.trans hpx))
        rw [hpx] at gx9
        clear hpx
        go_wp2_with (at_builtin; refine wpList_append_own _ rfl _ _ 31 rfl w.heap.size 3 i0 (.int .i64 0) 1 8 Tryd.underlying31 hi hz0 hz1 hz2 rfl (by decide) _ _ _ rfl (hown1.own.alloc _) ⟨wo.heap.size, 0, none⟩ 1 1 [.int .i64 y.1.tag] rfl rfl ?c1 ?c2 ?c3 ?c4 ?c5 ?_)
        case c1 => exact cell_new_one _ _ _
        case c2 => intro u hu; simp at hu; subst hu; rfl
        case c3 => unfold maxLen; omega
        case c4 => omega
        case c5 => have := hown1.bel.size; simp; omega
        intro v' w4 hown' hgrow' _
        have hR := hown1.add hown' hgrow'
        clear hown' hgrow' rr
        go_wp2
        go_roundg (its.length - (k + 1))
        case measure => omega
        case rel => exact ⟨k + 1, by omega, rfl, by go_num, by rw [HN.out]; exact hR⟩
      | false =>
        have HN := Lib.hid (filtTo_no (p := fun _ x => stB its x) (tagsOf_at HY.out) (HP.out.trans hpx))
        rw [hpx] at gx9
        clear hpx
        go_wp2
        go_roundg (its.length - (k + 1))
        case measure => omega
        case rel => exact ⟨k + 1, by omega, rfl, by go_num, by rw [HN.out]; exact hown1⟩
    · have hkk : k = its.length := by omega
      subst hkk
      obtain ⟨a', c', rfl, hI'⟩ := ownsInts hown1.own
      have hb := hown1.bel
      clear hown1
      go_wp2
      go_ret
      exact ⟨a', c', rfl, hI', hb⟩

theorem rTags_any {w : World} {r : Nat} {sv : Value} {its : List QItem} (h : RAt w r sv its) (hm : its.length ≤ 1000000) :
    Calls Tryd.prog 45 #[.pointer (some ⟨r, 0, none⟩), .bool false] w fun e w' => RetInts (tagsOf its) w e w' := by
  have := rtags_all h hm
  rwa [filtTo_all _ _ _ (by rw [tagsOf_len]; exact Nat.le_refl _) (fun _ _ _ => rfl), ← tagsOf_len its, List.take_length] at this
theorem rStarted_any {w : World} {r : Nat} {sv : Value} {its : List QItem} (h : RAt w r sv its) (hm : its.length ≤ 1000000) :
    Calls Tryd.prog 45 #[.pointer (some ⟨r, 0, none⟩), .bool true] w fun e w' => RetInts (startedOf its) w e w' := by
  have := rtags_st h hm
  rwa [filtTo_started its h.nod _ (Nat.le_refl _), List.take_length] at this

end Go.Proofs.YtfbafjlhdbjgoaaDoor
