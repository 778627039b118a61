/- command.Valid, kind A7b: it answers as the reference does. -/
import Derived.Test.YtfbafjlhdbjgoaaDoorA6
namespace Go.Proofs.YtfbafjlhdbjgoaaDoor
set_option linter.unusedVariables false
set_option linter.unusedSimpArgs false
open Go.RowKit
set_option maxHeartbeats 4000000 in
set_option maxRecDepth 100000 in
theorem valid_2 (c : Cmd) (w : World) (hv : c.vol.size ≤ 9223372036854775807) (ho : c.oth.size ≤ 9223372036854775807) (hda : Dat w c.da c.bs) (hm : (c.bs.length : Int) ≤ 17592186044416) (h1 : (c.kind == 1) = false) (h2 : (c.kind == 2) = true) (ht : 0 ≤ c.tag) (ht2 : c.tag ≤ 2147483647) (hor : (c.ord != 0) = false) :
    Calls Tryd.prog 66 #[c.val] w fun e w' => e = .returned (.bool (bodyB c)) ∧ Below w.heap.size w w' := by
  have HK := Lib.hid (show c.kind = 2 by simpa using h2)
  have HM := Lib.hid hm; clear hm
  go_enter Tryd.func66, Tryd.ntmps66
  go_wp2_with fail
  refine (only_any c _).mono ?_
  rintro e w1 ⟨rfl, hB1⟩
  obtain ⟨hB1, hs1, p0, p1, p2, p3, p4, p5, p6, p7, p8⟩ := box1 (c := c) (t := 24) (by simpa using hB1)
  go_wp2_with fail
  refine (name_any _ _ (by assumption)).mono ?_
  rintro e w2 ⟨rfl, hB2⟩
  obtain ⟨hB2, hs2, hs3, ⟨r0, r1, r2, r3, r4, r5, r6, r7, r8⟩, hU, hf⟩ := box_next (c := c) (u := { onlyC c with vol := c.vol }) (t := 24) hs1 ⟨p0, p1, p2, p3, p4, p5, p6, p7, p8⟩ (by rw [World.size_alloc] at hB2; exact hB2)
  simp only [Box, onlyC, List.length_nil] at hU
  obtain ⟨q0, q1, q2, q3, q4, q5, q6, q7, q8⟩ := hU
  clear p0 p1 p2 p3 p4 p5 p6 p7 p8
  have hB : Below w.heap.size w w2 := hB1.trans (hB2.mono (Nat.le_of_lt hs1))
  go_wp2_with fail
  go_region
  go_wp2_with (first
    | (go_at_call 82; refine (inside_any _ _ _).mono ?_; rintro e w' ⟨rfl, rfl⟩)
    | (go_at_call 83; refine (same_any c { onlyC c with vol := c.vol, pos := c.pos, len := c.len, da := c.da, dc := c.dc, bs := c.bs, force := c.force } _ (hda.mono (by (repeat (first | exact hB | refine Below.drew ?_ | refine Below.setCell ?_ (by simp; omega) _)))) (hda.mono (by (repeat (first | exact hB | refine Below.drew ?_ | refine Below.setCell ?_ (by simp; omega) _)))) HM.out).mono ?_; rintro e w4 ⟨rfl, hB4⟩))
  all_goals go_ret
  all_goals (refine ⟨ret_bool (by have hk := HK.out; clear HK HM hda hB; rw [Bool.eq_iff_iff]; simp [bodyB, bareB, emptyB, restB, onlyC, hk, empty_toList, *] <;> first | (intros; omega) | grind), ?_⟩)
  all_goals first
    | exact (show Below w.heap.size w _ by (repeat (first | exact hB | refine Below.drew ?_ | refine Below.setCell ?_ (by simp; omega) _))).trans (hB4.mono (Below.size (show Below w.heap.size w _ by (repeat (first | exact hB | refine Below.drew ?_ | refine Below.setCell ?_ (by simp; omega) _)))))
    | (repeat (first | exact hB | refine Below.drew ?_ | refine Below.setCell ?_ (by simp; omega) _))
set_option maxHeartbeats 4000000 in
set_option maxRecDepth 100000 in
theorem valid_2o (c : Cmd) (w : World) (hv : c.vol.size ≤ 9223372036854775807) (ho : c.oth.size ≤ 9223372036854775807) (hda : Dat w c.da c.bs) (hm : (c.bs.length : Int) ≤ 17592186044416) (h1 : (c.kind == 1) = false) (h2 : (c.kind == 2) = true) (ht : 0 ≤ c.tag) (ht2 : c.tag ≤ 2147483647) (hor : (c.ord != 0) = true) (hor1 : (c.ord != 1) = false) :
    Calls Tryd.prog 66 #[c.val] w fun e w' => e = .returned (.bool (bodyB c)) ∧ Below w.heap.size w w' := by
  have HK := Lib.hid (show c.kind = 2 by simpa using h2)
  have HM := Lib.hid hm; clear hm
  go_enter Tryd.func66, Tryd.ntmps66
  go_wp2_with fail
  refine (only_any c _).mono ?_
  rintro e w1 ⟨rfl, hB1⟩
  obtain ⟨hB1, hs1, p0, p1, p2, p3, p4, p5, p6, p7, p8⟩ := box1 (c := c) (t := 24) (by simpa using hB1)
  go_wp2_with fail
  refine (name_any _ _ (by assumption)).mono ?_
  rintro e w2 ⟨rfl, hB2⟩
  obtain ⟨hB2, hs2, hs3, ⟨r0, r1, r2, r3, r4, r5, r6, r7, r8⟩, hU, hf⟩ := box_next (c := c) (u := { onlyC c with vol := c.vol }) (t := 24) hs1 ⟨p0, p1, p2, p3, p4, p5, p6, p7, p8⟩ (by rw [World.size_alloc] at hB2; exact hB2)
  simp only [Box, onlyC, List.length_nil] at hU
  obtain ⟨q0, q1, q2, q3, q4, q5, q6, q7, q8⟩ := hU
  clear p0 p1 p2 p3 p4 p5 p6 p7 p8
  have hB : Below w.heap.size w w2 := hB1.trans (hB2.mono (Nat.le_of_lt hs1))
  go_wp2_with fail
  go_region
  go_wp2_with (first
    | (go_at_call 82; refine (inside_any _ _ _).mono ?_; rintro e w' ⟨rfl, rfl⟩)
    | (go_at_call 83; refine (same_any c { onlyC c with vol := c.vol, pos := c.pos, len := c.len, da := c.da, dc := c.dc, bs := c.bs, force := c.force } _ (hda.mono (by (repeat (first | exact hB | refine Below.drew ?_ | refine Below.setCell ?_ (by simp; omega) _)))) (hda.mono (by (repeat (first | exact hB | refine Below.drew ?_ | refine Below.setCell ?_ (by simp; omega) _)))) HM.out).mono ?_; rintro e w4 ⟨rfl, hB4⟩))
  all_goals go_ret
  all_goals (refine ⟨ret_bool (by have hk := HK.out; clear HK HM hda hB; rw [Bool.eq_iff_iff]; simp [bodyB, bareB, emptyB, restB, onlyC, hk, empty_toList, *] <;> first | (intros; omega) | grind), ?_⟩)
  all_goals first
    | exact (show Below w.heap.size w _ by (repeat (first | exact hB | refine Below.drew ?_ | refine Below.setCell ?_ (by simp; omega) _))).trans (hB4.mono (Below.size (show Below w.heap.size w _ by (repeat (first | exact hB | refine Below.drew ?_ | refine Below.setCell ?_ (by simp; omega) _)))))
    | (repeat (first | exact hB | refine Below.drew ?_ | refine Below.setCell ?_ (by simp; omega) _))
set_option maxHeartbeats 4000000 in
set_option maxRecDepth 100000 in
theorem valid_3 (c : Cmd) (w : World) (hv : c.vol.size ≤ 9223372036854775807) (ho : c.oth.size ≤ 9223372036854775807) (hda : Dat w c.da c.bs) (hm : (c.bs.length : Int) ≤ 17592186044416) (h1 : (c.kind == 1) = false) (h2 : (c.kind == 2) = false) (h3 : (c.kind == 3) = true) (ht : 0 ≤ c.tag) (ht2 : c.tag ≤ 2147483647) (hor : (c.ord != 0) = false) :
    Calls Tryd.prog 66 #[c.val] w fun e w' => e = .returned (.bool (bodyB c)) ∧ Below w.heap.size w w' := by
  have HK := Lib.hid (show c.kind = 3 by simpa using h3)
  have HM := Lib.hid hm; clear hm
  go_enter Tryd.func66, Tryd.ntmps66
  go_wp2_with fail
  refine (only_any c _).mono ?_
  rintro e w1 ⟨rfl, hB1⟩
  obtain ⟨hB1, hs1, p0, p1, p2, p3, p4, p5, p6, p7, p8⟩ := box1 (c := c) (t := 24) (by simpa using hB1)
  go_wp2_with fail
  refine (name_any _ _ (by assumption)).mono ?_
  rintro e w2 ⟨rfl, hB2⟩
  obtain ⟨hB2, hs2, hs3, ⟨r0, r1, r2, r3, r4, r5, r6, r7, r8⟩, hU, hf⟩ := box_next (c := c) (u := { onlyC c with vol := c.vol }) (t := 24) hs1 ⟨p0, p1, p2, p3, p4, p5, p6, p7, p8⟩ (by rw [World.size_alloc] at hB2; exact hB2)
  simp only [Box, onlyC, List.length_nil] at hU
  obtain ⟨q0, q1, q2, q3, q4, q5, q6, q7, q8⟩ := hU
  clear p0 p1 p2 p3 p4 p5 p6 p7 p8
  have hB : Below w.heap.size w w2 := hB1.trans (hB2.mono (Nat.le_of_lt hs1))
  go_wp2_with fail
  go_region
  go_wp2_with (first
    | (go_at_call 82; refine (inside_any _ _ _).mono ?_; rintro e w' ⟨rfl, rfl⟩)
    | (go_at_call 83; refine (same_any c { onlyC c with vol := c.vol, pos := c.pos, len := c.len, force := c.force } _ (hda.mono (by (repeat (first | exact hB | refine Below.drew ?_ | refine Below.setCell ?_ (by simp; omega) _)))) (fun h => absurd h (by simp [onlyC])) HM.out).mono ?_; rintro e w4 ⟨rfl, hB4⟩))
  all_goals go_ret
  all_goals (refine ⟨ret_bool (by have hk := HK.out; clear HK HM hda hB; rw [Bool.eq_iff_iff]; simp [bodyB, bareB, emptyB, restB, onlyC, hk, empty_toList, *] <;> first | (intros; omega) | grind), ?_⟩)
  all_goals first
    | exact (show Below w.heap.size w _ by (repeat (first | exact hB | refine Below.drew ?_ | refine Below.setCell ?_ (by simp; omega) _))).trans (hB4.mono (Below.size (show Below w.heap.size w _ by (repeat (first | exact hB | refine Below.drew ?_ | refine Below.setCell ?_ (by simp; omega) _)))))
    | (repeat (first | exact hB | refine Below.drew ?_ | refine Below.setCell ?_ (by simp; omega) _))
set_option maxHeartbeats 4000000 in
set_option maxRecDepth 100000 in
theorem valid_3o (c : Cmd) (w : World) (hv : c.vol.size ≤ 9223372036854775807) (ho : c.oth.size ≤ 9223372036854775807) (hda : Dat w c.da c.bs) (hm : (c.bs.length : Int) ≤ 17592186044416) (h1 : (c.kind == 1) = false) (h2 : (c.kind == 2) = false) (h3 : (c.kind == 3) = true) (ht : 0 ≤ c.tag) (ht2 : c.tag ≤ 2147483647) (hor : (c.ord != 0) = true) (hor1 : (c.ord != 1) = false) :
    Calls Tryd.prog 66 #[c.val] w fun e w' => e = .returned (.bool (bodyB c)) ∧ Below w.heap.size w w' := by
  have HK := Lib.hid (show c.kind = 3 by simpa using h3)
  have HM := Lib.hid hm; clear hm
  go_enter Tryd.func66, Tryd.ntmps66
  go_wp2_with fail
  refine (only_any c _).mono ?_
  rintro e w1 ⟨rfl, hB1⟩
  obtain ⟨hB1, hs1, p0, p1, p2, p3, p4, p5, p6, p7, p8⟩ := box1 (c := c) (t := 24) (by simpa using hB1)
  go_wp2_with fail
  refine (name_any _ _ (by assumption)).mono ?_
  rintro e w2 ⟨rfl, hB2⟩
  obtain ⟨hB2, hs2, hs3, ⟨r0, r1, r2, r3, r4, r5, r6, r7, r8⟩, hU, hf⟩ := box_next (c := c) (u := { onlyC c with vol := c.vol }) (t := 24) hs1 ⟨p0, p1, p2, p3, p4, p5, p6, p7, p8⟩ (by rw [World.size_alloc] at hB2; exact hB2)
  simp only [Box, onlyC, List.length_nil] at hU
  obtain ⟨q0, q1, q2, q3, q4, q5, q6, q7, q8⟩ := hU
  clear p0 p1 p2 p3 p4 p5 p6 p7 p8
  have hB : Below w.heap.size w w2 := hB1.trans (hB2.mono (Nat.le_of_lt hs1))
  go_wp2_with fail
  go_region
  go_wp2_with (first
    | (go_at_call 82; refine (inside_any _ _ _).mono ?_; rintro e w' ⟨rfl, rfl⟩)
    | (go_at_call 83; refine (same_any c { onlyC c with vol := c.vol, pos := c.pos, len := c.len, force := c.force } _ (hda.mono (by (repeat (first | exact hB | refine Below.drew ?_ | refine Below.setCell ?_ (by simp; omega) _)))) (fun h => absurd h (by simp [onlyC])) HM.out).mono ?_; rintro e w4 ⟨rfl, hB4⟩))
  all_goals go_ret
  all_goals (refine ⟨ret_bool (by have hk := HK.out; clear HK HM hda hB; rw [Bool.eq_iff_iff]; simp [bodyB, bareB, emptyB, restB, onlyC, hk, empty_toList, *] <;> first | (intros; omega) | grind), ?_⟩)
  all_goals first
    | exact (show Below w.heap.size w _ by (repeat (first | exact hB | refine Below.drew ?_ | refine Below.setCell ?_ (by simp; omega) _))).trans (hB4.mono (Below.size (show Below w.heap.size w _ by (repeat (first | exact hB | refine Below.drew ?_ | refine Below.setCell ?_ (by simp; omega) _)))))
    | (repeat (first | exact hB | refine Below.drew ?_ | refine Below.setCell ?_ (by simp; omega) _))
end Go.Proofs.YtfbafjlhdbjgoaaDoor
