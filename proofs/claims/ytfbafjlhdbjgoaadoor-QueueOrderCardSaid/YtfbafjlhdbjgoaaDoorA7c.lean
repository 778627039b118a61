/- command.Valid, kind A7c: it answers as the reference does. -/
import Derived.Test.YtfbafjlhdbjgoaaDoorA6
namespace Go.Proofs.YtfbafjlhdbjgoaaDoor
set_option linter.unusedVariables false
set_option linter.unusedSimpArgs false
open Go.RowKit
set_option maxHeartbeats 4000000 in
set_option maxRecDepth 100000 in
theorem valid_5 (c : Cmd) (w : World) (hv : c.vol.size ≤ 9223372036854775807) (ho : c.oth.size ≤ 9223372036854775807) (hda : Dat w c.da c.bs) (hm : (c.bs.length : Int) ≤ 17592186044416) (h1 : (c.kind == 1) = false) (h2 : (c.kind == 2) = false) (h3 : (c.kind == 3) = false) (h4 : (c.kind == 4) = false) (h5 : (c.kind == 5) = true) (ht : 0 ≤ c.tag) (ht2 : c.tag ≤ 2147483647) (hor : (c.ord != 0) = false) :
    Calls Tryd.prog 66 #[c.val] w fun e w' => e = .returned (.bool (bodyB c)) ∧ Below w.heap.size w w' := by
  have HK := Lib.hid (show c.kind = 5 by simpa using h5)
  have HM := Lib.hid hm; clear hm
  go_enter Tryd.func66, Tryd.ntmps66
  go_wp2_with fail
  refine (only_any c _).mono ?_
  rintro e w1 ⟨rfl, hB1⟩
  obtain ⟨hB1, hs1, p0, p1, p2, p3, p4, p5, p6, p7, p8⟩ := box1 (c := c) (t := 24) (by simpa using hB1)
  go_wp2_with fail
  refine (name_any _ _ (by assumption)).mono ?_
  rintro e w2 ⟨rfl, hB2⟩
  obtain ⟨hB2, hs2, hs3, ⟨r0, r1, r2, r3, r4, r5, r6, r7, r8⟩, hU, hf⟩ := box_next (c := c) (u := { onlyC c with vol := c.vol }) (t := 24) hs1 ⟨p0, p1, p2, p3, p4, p5, p6, p7, p8⟩ (by rw [World.size_alloc] at hB2; exact hB2)
  simp only [Box, onlyC, List.length_nil] at hU
  obtain ⟨q0, q1, q2, q3, q4, q5, q6, q7, q8⟩ := hU
  clear p0 p1 p2 p3 p4 p5 p6 p7 p8
  have hB : Below w.heap.size w w2 := hB1.trans (hB2.mono (Nat.le_of_lt hs1))
  go_wp2_with fail
  go_region
  go_wp2_with (first
    | (go_at_call 82; refine (inside_any _ _ _).mono ?_; rintro e w' ⟨rfl, rfl⟩)
    | (go_at_call 83; refine (same_any c { onlyC c with vol := c.vol, pos := c.pos, len := c.len } _ (hda.mono (by (repeat (first | exact hB | refine Below.drew ?_ | refine Below.setCell ?_ (by simp; omega) _)))) (fun h => absurd h (by simp [onlyC])) HM.out).mono ?_; rintro e w4 ⟨rfl, hB4⟩))
  all_goals go_ret
  all_goals (refine ⟨ret_bool (by have hk := HK.out; clear HK HM hda hB; rw [Bool.eq_iff_iff]; simp [bodyB, bareB, emptyB, restB, onlyC, hk, empty_toList, *] <;> first | (intros; omega) | grind), ?_⟩)
  all_goals first
    | exact (show Below w.heap.size w _ by (repeat (first | exact hB | refine Below.drew ?_ | refine Below.setCell ?_ (by simp; omega) _))).trans (hB4.mono (Below.size (show Below w.heap.size w _ by (repeat (first | exact hB | refine Below.drew ?_ | refine Below.setCell ?_ (by simp; omega) _)))))
    | (repeat (first | exact hB | refine Below.drew ?_ | refine Below.setCell ?_ (by simp; omega) _))
set_option maxHeartbeats 4000000 in
set_option maxRecDepth 100000 in
theorem valid_5o (c : Cmd) (w : World) (hv : c.vol.size ≤ 9223372036854775807) (ho : c.oth.size ≤ 9223372036854775807) (hda : Dat w c.da c.bs) (hm : (c.bs.length : Int) ≤ 17592186044416) (h1 : (c.kind == 1) = false) (h2 : (c.kind == 2) = false) (h3 : (c.kind == 3) = false) (h4 : (c.kind == 4) = false) (h5 : (c.kind == 5) = true) (ht : 0 ≤ c.tag) (ht2 : c.tag ≤ 2147483647) (hor : (c.ord != 0) = true) (hor1 : (c.ord != 1) = false) :
    Calls Tryd.prog 66 #[c.val] w fun e w' => e = .returned (.bool (bodyB c)) ∧ Below w.heap.size w w' := by
  have HK := Lib.hid (show c.kind = 5 by simpa using h5)
  have HM := Lib.hid hm; clear hm
  go_enter Tryd.func66, Tryd.ntmps66
  go_wp2_with fail
  refine (only_any c _).mono ?_
  rintro e w1 ⟨rfl, hB1⟩
  obtain ⟨hB1, hs1, p0, p1, p2, p3, p4, p5, p6, p7, p8⟩ := box1 (c := c) (t := 24) (by simpa using hB1)
  go_wp2_with fail
  refine (name_any _ _ (by assumption)).mono ?_
  rintro e w2 ⟨rfl, hB2⟩
  obtain ⟨hB2, hs2, hs3, ⟨r0, r1, r2, r3, r4, r5, r6, r7, r8⟩, hU, hf⟩ := box_next (c := c) (u := { onlyC c with vol := c.vol }) (t := 24) hs1 ⟨p0, p1, p2, p3, p4, p5, p6, p7, p8⟩ (by rw [World.size_alloc] at hB2; exact hB2)
  simp only [Box, onlyC, List.length_nil] at hU
  obtain ⟨q0, q1, q2, q3, q4, q5, q6, q7, q8⟩ := hU
  clear p0 p1 p2 p3 p4 p5 p6 p7 p8
  have hB : Below w.heap.size w w2 := hB1.trans (hB2.mono (Nat.le_of_lt hs1))
  go_wp2_with fail
  go_region
  go_wp2_with (first
    | (go_at_call 82; refine (inside_any _ _ _).mono ?_; rintro e w' ⟨rfl, rfl⟩)
    | (go_at_call 83; refine (same_any c { onlyC c with vol := c.vol, pos := c.pos, len := c.len } _ (hda.mono (by (repeat (first | exact hB | refine Below.drew ?_ | refine Below.setCell ?_ (by simp; omega) _)))) (fun h => absurd h (by simp [onlyC])) HM.out).mono ?_; rintro e w4 ⟨rfl, hB4⟩))
  all_goals go_ret
  all_goals (refine ⟨ret_bool (by have hk := HK.out; clear HK HM hda hB; rw [Bool.eq_iff_iff]; simp [bodyB, bareB, emptyB, restB, onlyC, hk, empty_toList, *] <;> first | (intros; omega) | grind), ?_⟩)
  all_goals first
    | exact (show Below w.heap.size w _ by (repeat (first | exact hB | refine Below.drew ?_ | refine Below.setCell ?_ (by simp; omega) _))).trans (hB4.mono (Below.size (show Below w.heap.size w _ by (repeat (first | exact hB | refine Below.drew ?_ | refine Below.setCell ?_ (by simp; omega) _)))))
    | (repeat (first | exact hB | refine Below.drew ?_ | refine Below.setCell ?_ (by simp; omega) _))
set_option maxHeartbeats 4000000 in
set_option maxRecDepth 100000 in
theorem valid_6 (c : Cmd) (w : World) (hv : c.vol.size ≤ 9223372036854775807) (ho : c.oth.size ≤ 9223372036854775807) (hda : Dat w c.da c.bs) (hm : (c.bs.length : Int) ≤ 17592186044416) (h1 : (c.kind == 1) = false) (h2 : (c.kind == 2) = false) (h3 : (c.kind == 3) = false) (h4 : (c.kind == 4) = false) (h5 : (c.kind == 5) = false) (h6 : (c.kind == 6) = true) (ht : 0 ≤ c.tag) (ht2 : c.tag ≤ 2147483647) (hor : (c.ord != 0) = false) :
    Calls Tryd.prog 66 #[c.val] w fun e w' => e = .returned (.bool (bodyB c)) ∧ Below w.heap.size w w' := by
  have HK := Lib.hid (show c.kind = 6 by simpa using h6)
  have HM := Lib.hid hm; clear hm
  go_enter Tryd.func66, Tryd.ntmps66
  go_wp2_with fail
  refine (only_any c _).mono ?_
  rintro e w1 ⟨rfl, hB1⟩
  obtain ⟨hB1, hs1, p0, p1, p2, p3, p4, p5, p6, p7, p8⟩ := box1 (c := c) (t := 24) (by simpa using hB1)
  go_wp2_with fail
  refine (name_any _ _ (by assumption)).mono ?_
  rintro e w2 ⟨rfl, hB2⟩
  obtain ⟨hB2, hs2, hs3, ⟨r0, r1, r2, r3, r4, r5, r6, r7, r8⟩, hU, hf⟩ := box_next (c := c) (u := { onlyC c with vol := c.vol }) (t := 24) hs1 ⟨p0, p1, p2, p3, p4, p5, p6, p7, p8⟩ (by rw [World.size_alloc] at hB2; exact hB2)
  simp only [Box, onlyC, List.length_nil] at hU
  obtain ⟨q0, q1, q2, q3, q4, q5, q6, q7, q8⟩ := hU
  clear p0 p1 p2 p3 p4 p5 p6 p7 p8
  have hB : Below w.heap.size w w2 := hB1.trans (hB2.mono (Nat.le_of_lt hs1))
  by_cases hn : nameB c.vol = true
  · go_wp2_with fail
    refine (name_any _ _ (by assumption)).mono ?_
    rintro e w3 ⟨rfl, hB3⟩
    have hS : (w2.setCell ⟨w1.heap.size, 5, none⟩ (.string c.oth)).heap.size = w2.heap.size := by simp [World.setCell]
    rw [hS] at hB3
    have hB23 : Below w.heap.size w (w2.setCell ⟨w1.heap.size, 5, none⟩ (.string c.oth)) := hB.setCell (Nat.le_of_lt hs1) _
    have hBn : Below w.heap.size w w3 := hB23.trans (hB3.mono (Nat.le_of_lt hs2))
    have k1 : ∀ o v, (w2.setCell ⟨w1.heap.size, 5, none⟩ (.string c.oth)).cell? ⟨w.heap.size, o, none⟩ = some v → w3.cell? ⟨w.heap.size, o, none⟩ = some v := fun o v h => (hB3.cell (p := ⟨w.heap.size, o, none⟩) hs2).trans h
    have k2 : ∀ o v, (w2.setCell ⟨w1.heap.size, 5, none⟩ (.string c.oth)).cell? ⟨w1.heap.size, o, none⟩ = some v → w3.cell? ⟨w1.heap.size, o, none⟩ = some v := fun o v h => (hB3.cell (p := ⟨w1.heap.size, o, none⟩) hs3).trans h
    have hne : w.heap.size ≠ w1.heap.size := Nat.ne_of_lt hs1
    have t0 := k1 0 _ ((World.cell?_setCell_other _ _ _ _ (by simp [hne])).trans r0)
    have t1 := k1 1 _ ((World.cell?_setCell_other _ _ _ _ (by simp [hne])).trans r1)
    have t2 := k1 2 _ ((World.cell?_setCell_other _ _ _ _ (by simp [hne])).trans r2)
    have t3 := k1 3 _ ((World.cell?_setCell_other _ _ _ _ (by simp [hne])).trans r3)
    have t4 := k1 4 _ ((World.cell?_setCell_other _ _ _ _ (by simp [hne])).trans r4)
    have t5 := k1 5 _ ((World.cell?_setCell_other _ _ _ _ (by simp [hne])).trans r5)
    have t6 := k1 6 _ ((World.cell?_setCell_other _ _ _ _ (by simp [hne])).trans r6)
    have t7 := k1 7 _ ((World.cell?_setCell_other _ _ _ _ (by simp [hne])).trans r7)
    have t8 := k1 8 _ ((World.cell?_setCell_other _ _ _ _ (by simp [hne])).trans r8)
    have s0 := k2 0 _ ((World.cell?_setCell_other _ _ _ _ (by simp)).trans q0)
    have s1 := k2 1 _ ((World.cell?_setCell_other _ _ _ _ (by simp)).trans q1)
    have s2 := k2 2 _ ((World.cell?_setCell_other _ _ _ _ (by simp)).trans q2)
    have s3 := k2 3 _ ((World.cell?_setCell_other _ _ _ _ (by simp)).trans q3)
    have s4 := k2 4 _ ((World.cell?_setCell_other _ _ _ _ (by simp)).trans q4)
    have s5 := k2 5 (.string c.oth) (by go_simp)
    have s6 := k2 6 _ ((World.cell?_setCell_other _ _ _ _ (by simp)).trans q6)
    have s7 := k2 7 _ ((World.cell?_setCell_other _ _ _ _ (by simp)).trans q7)
    have s8 := k2 8 _ ((World.cell?_setCell_other _ _ _ _ (by simp)).trans q8)
    clear k1 k2 r0 r1 r2 r3 r4 r5 r6 r7 r8 q0 q1 q2 q3 q4 q5 q6 q7 q8
    go_wp2_with (go_at_call 83; refine (same_any c { onlyC c with vol := c.vol, oth := c.oth } _ (hda.mono hBn) (fun h => absurd h (by simp [onlyC])) HM.out).mono ?_; rintro e w4 ⟨rfl, hB4⟩)
    all_goals go_ret
    all_goals (refine ⟨ret_bool (by have hk := HK.out; clear HK HM hda hB; rw [Bool.eq_iff_iff]; simp [bodyB, bareB, emptyB, restB, onlyC, hk, empty_toList, *] <;> first | (intros; omega) | grind), ?_⟩)
    all_goals first
      | exact hBn.trans (hB4.mono hBn.size)
      | exact hBn
  · have hn' : nameB c.vol = false := by simpa using hn
    go_wp2_with fail
    go_ret
    refine ⟨ret_bool ?_, ?_⟩
    · simp [bodyB, HK.out, hn']
    · exact hB.setCell (Nat.le_of_lt hs1) _
set_option maxHeartbeats 4000000 in
set_option maxRecDepth 100000 in
theorem valid_6o (c : Cmd) (w : World) (hv : c.vol.size ≤ 9223372036854775807) (ho : c.oth.size ≤ 9223372036854775807) (hda : Dat w c.da c.bs) (hm : (c.bs.length : Int) ≤ 17592186044416) (h1 : (c.kind == 1) = false) (h2 : (c.kind == 2) = false) (h3 : (c.kind == 3) = false) (h4 : (c.kind == 4) = false) (h5 : (c.kind == 5) = false) (h6 : (c.kind == 6) = true) (ht : 0 ≤ c.tag) (ht2 : c.tag ≤ 2147483647) (hor : (c.ord != 0) = true) (hor1 : (c.ord != 1) = false) :
    Calls Tryd.prog 66 #[c.val] w fun e w' => e = .returned (.bool (bodyB c)) ∧ Below w.heap.size w w' := by
  have HK := Lib.hid (show c.kind = 6 by simpa using h6)
  have HM := Lib.hid hm; clear hm
  go_enter Tryd.func66, Tryd.ntmps66
  go_wp2_with fail
  refine (only_any c _).mono ?_
  rintro e w1 ⟨rfl, hB1⟩
  obtain ⟨hB1, hs1, p0, p1, p2, p3, p4, p5, p6, p7, p8⟩ := box1 (c := c) (t := 24) (by simpa using hB1)
  go_wp2_with fail
  refine (name_any _ _ (by assumption)).mono ?_
  rintro e w2 ⟨rfl, hB2⟩
  obtain ⟨hB2, hs2, hs3, ⟨r0, r1, r2, r3, r4, r5, r6, r7, r8⟩, hU, hf⟩ := box_next (c := c) (u := { onlyC c with vol := c.vol }) (t := 24) hs1 ⟨p0, p1, p2, p3, p4, p5, p6, p7, p8⟩ (by rw [World.size_alloc] at hB2; exact hB2)
  simp only [Box, onlyC, List.length_nil] at hU
  obtain ⟨q0, q1, q2, q3, q4, q5, q6, q7, q8⟩ := hU
  clear p0 p1 p2 p3 p4 p5 p6 p7 p8
  have hB : Below w.heap.size w w2 := hB1.trans (hB2.mono (Nat.le_of_lt hs1))
  by_cases hn : nameB c.vol = true
  · go_wp2_with fail
    refine (name_any _ _ (by assumption)).mono ?_
    rintro e w3 ⟨rfl, hB3⟩
    have hS : (w2.setCell ⟨w1.heap.size, 5, none⟩ (.string c.oth)).heap.size = w2.heap.size := by simp [World.setCell]
    rw [hS] at hB3
    have hB23 : Below w.heap.size w (w2.setCell ⟨w1.heap.size, 5, none⟩ (.string c.oth)) := hB.setCell (Nat.le_of_lt hs1) _
    have hBn : Below w.heap.size w w3 := hB23.trans (hB3.mono (Nat.le_of_lt hs2))
    have k1 : ∀ o v, (w2.setCell ⟨w1.heap.size, 5, none⟩ (.string c.oth)).cell? ⟨w.heap.size, o, none⟩ = some v → w3.cell? ⟨w.heap.size, o, none⟩ = some v := fun o v h => (hB3.cell (p := ⟨w.heap.size, o, none⟩) hs2).trans h
    have k2 : ∀ o v, (w2.setCell ⟨w1.heap.size, 5, none⟩ (.string c.oth)).cell? ⟨w1.heap.size, o, none⟩ = some v → w3.cell? ⟨w1.heap.size, o, none⟩ = some v := fun o v h => (hB3.cell (p := ⟨w1.heap.size, o, none⟩) hs3).trans h
    have hne : w.heap.size ≠ w1.heap.size := Nat.ne_of_lt hs1
    have t0 := k1 0 _ ((World.cell?_setCell_other _ _ _ _ (by simp [hne])).trans r0)
    have t1 := k1 1 _ ((World.cell?_setCell_other _ _ _ _ (by simp [hne])).trans r1)
    have t2 := k1 2 _ ((World.cell?_setCell_other _ _ _ _ (by simp [hne])).trans r2)
    have t3 := k1 3 _ ((World.cell?_setCell_other _ _ _ _ (by simp [hne])).trans r3)
    have t4 := k1 4 _ ((World.cell?_setCell_other _ _ _ _ (by simp [hne])).trans r4)
    have t5 := k1 5 _ ((World.cell?_setCell_other _ _ _ _ (by simp [hne])).trans r5)
    have t6 := k1 6 _ ((World.cell?_setCell_other _ _ _ _ (by simp [hne])).trans r6)
    have t7 := k1 7 _ ((World.cell?_setCell_other _ _ _ _ (by simp [hne])).trans r7)
    have t8 := k1 8 _ ((World.cell?_setCell_other _ _ _ _ (by simp [hne])).trans r8)
    have s0 := k2 0 _ ((World.cell?_setCell_other _ _ _ _ (by simp)).trans q0)
    have s1 := k2 1 _ ((World.cell?_setCell_other _ _ _ _ (by simp)).trans q1)
    have s2 := k2 2 _ ((World.cell?_setCell_other _ _ _ _ (by simp)).trans q2)
    have s3 := k2 3 _ ((World.cell?_setCell_other _ _ _ _ (by simp)).trans q3)
    have s4 := k2 4 _ ((World.cell?_setCell_other _ _ _ _ (by simp)).trans q4)
    have s5 := k2 5 (.string c.oth) (by go_simp)
    have s6 := k2 6 _ ((World.cell?_setCell_other _ _ _ _ (by simp)).trans q6)
    have s7 := k2 7 _ ((World.cell?_setCell_other _ _ _ _ (by simp)).trans q7)
    have s8 := k2 8 _ ((World.cell?_setCell_other _ _ _ _ (by simp)).trans q8)
    clear k1 k2 r0 r1 r2 r3 r4 r5 r6 r7 r8 q0 q1 q2 q3 q4 q5 q6 q7 q8
    go_wp2_with (go_at_call 83; refine (same_any c { onlyC c with vol := c.vol, oth := c.oth } _ (hda.mono hBn) (fun h => absurd h (by simp [onlyC])) HM.out).mono ?_; rintro e w4 ⟨rfl, hB4⟩)
    all_goals go_ret
    all_goals (refine ⟨ret_bool (by have hk := HK.out; clear HK HM hda hB; rw [Bool.eq_iff_iff]; simp [bodyB, bareB, emptyB, restB, onlyC, hk, empty_toList, *] <;> first | (intros; omega) | grind), ?_⟩)
    all_goals first
      | exact hBn.trans (hB4.mono hBn.size)
      | exact hBn
  · have hn' : nameB c.vol = false := by simpa using hn
    go_wp2_with fail
    go_ret
    refine ⟨ret_bool ?_, ?_⟩
    · simp [bodyB, HK.out, hn']
    · exact hB.setCell (Nat.le_of_lt hs1) _
set_option maxHeartbeats 4000000 in
set_option maxRecDepth 100000 in
theorem valid_8 (c : Cmd) (w : World) (hv : c.vol.size ≤ 9223372036854775807) (ho : c.oth.size ≤ 9223372036854775807) (hda : Dat w c.da c.bs) (hm : (c.bs.length : Int) ≤ 17592186044416) (h1 : (c.kind == 1) = false) (h2 : (c.kind == 2) = false) (h3 : (c.kind == 3) = false) (h4 : (c.kind == 4) = false) (h5 : (c.kind == 5) = false) (h6 : (c.kind == 6) = false) (h7 : (c.kind == 7) = false) (ht : 0 ≤ c.tag) (ht2 : c.tag ≤ 2147483647) (hor : (c.ord != 0) = false) :
    Calls Tryd.prog 66 #[c.val] w fun e w' => e = .returned (.bool (bodyB c)) ∧ Below w.heap.size w w' := by
  have HB := Lib.hid (show bodyB c = false by simp only [beq_eq_false_iff_ne, ne_eq] at h1 h2 h3 h4 h5 h6 h7; simp only [bodyB, h1, h2, h3, h4, h5, h6, h7, if_false])
  have HM := Lib.hid hm; clear hm
  go_enter Tryd.func66, Tryd.ntmps66
  go_wp2_with fail
  refine (only_any c _).mono ?_
  rintro e w1 ⟨rfl, hB1⟩
  obtain ⟨hB1, hs1, p0, p1, p2, p3, p4, p5, p6, p7, p8⟩ := box1 (c := c) (t := 24) (by simpa using hB1)
  go_wp2_with fail
  refine (name_any _ _ (by assumption)).mono ?_
  rintro e w2 ⟨rfl, hB2⟩
  obtain ⟨hB2, hs2, hs3, ⟨r0, r1, r2, r3, r4, r5, r6, r7, r8⟩, hU, hf⟩ := box_next (c := c) (u := { onlyC c with vol := c.vol }) (t := 24) hs1 ⟨p0, p1, p2, p3, p4, p5, p6, p7, p8⟩ (by rw [World.size_alloc] at hB2; exact hB2)
  simp only [Box, onlyC, List.length_nil] at hU
  obtain ⟨q0, q1, q2, q3, q4, q5, q6, q7, q8⟩ := hU
  clear p0 p1 p2 p3 p4 p5 p6 p7 p8
  have hB : Below w.heap.size w w2 := hB1.trans (hB2.mono (Nat.le_of_lt hs1))
  go_wp2
  go_ret
  exact ⟨ret_bool HB.out.symm, hB⟩
set_option maxHeartbeats 4000000 in
set_option maxRecDepth 100000 in
theorem valid_8o (c : Cmd) (w : World) (hv : c.vol.size ≤ 9223372036854775807) (ho : c.oth.size ≤ 9223372036854775807) (hda : Dat w c.da c.bs) (hm : (c.bs.length : Int) ≤ 17592186044416) (h1 : (c.kind == 1) = false) (h2 : (c.kind == 2) = false) (h3 : (c.kind == 3) = false) (h4 : (c.kind == 4) = false) (h5 : (c.kind == 5) = false) (h6 : (c.kind == 6) = false) (h7 : (c.kind == 7) = false) (ht : 0 ≤ c.tag) (ht2 : c.tag ≤ 2147483647) (hor : (c.ord != 0) = true) (hor1 : (c.ord != 1) = false) :
    Calls Tryd.prog 66 #[c.val] w fun e w' => e = .returned (.bool (bodyB c)) ∧ Below w.heap.size w w' := by
  have HB := Lib.hid (show bodyB c = false by simp only [beq_eq_false_iff_ne, ne_eq] at h1 h2 h3 h4 h5 h6 h7; simp only [bodyB, h1, h2, h3, h4, h5, h6, h7, if_false])
  have HM := Lib.hid hm; clear hm
  go_enter Tryd.func66, Tryd.ntmps66
  go_wp2_with fail
  refine (only_any c _).mono ?_
  rintro e w1 ⟨rfl, hB1⟩
  obtain ⟨hB1, hs1, p0, p1, p2, p3, p4, p5, p6, p7, p8⟩ := box1 (c := c) (t := 24) (by simpa using hB1)
  go_wp2_with fail
  refine (name_any _ _ (by assumption)).mono ?_
  rintro e w2 ⟨rfl, hB2⟩
  obtain ⟨hB2, hs2, hs3, ⟨r0, r1, r2, r3, r4, r5, r6, r7, r8⟩, hU, hf⟩ := box_next (c := c) (u := { onlyC c with vol := c.vol }) (t := 24) hs1 ⟨p0, p1, p2, p3, p4, p5, p6, p7, p8⟩ (by rw [World.size_alloc] at hB2; exact hB2)
  simp only [Box, onlyC, List.length_nil] at hU
  obtain ⟨q0, q1, q2, q3, q4, q5, q6, q7, q8⟩ := hU
  clear p0 p1 p2 p3 p4 p5 p6 p7 p8
  have hB : Below w.heap.size w w2 := hB1.trans (hB2.mono (Nat.le_of_lt hs1))
  go_wp2
  go_ret
  exact ⟨ret_bool HB.out.symm, hB⟩
end Go.Proofs.YtfbafjlhdbjgoaaDoor
