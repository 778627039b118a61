/- The reference's Valid, kinds 5 and more. -/
import Derived.Test.YtfbafjlhdbjgoaaDoorA4
namespace Go.Proofs.YtfbafjlhdbjgoaaDoor
set_option linter.unusedVariables false
set_option linter.unusedSimpArgs false
open Go.RowKit
set_option maxHeartbeats 4000000 in
set_option maxRecDepth 100000 in
theorem refValid_5 (c : Cmd) (w : World) (hv : c.vol.size ≤ 9223372036854775807) (ho : c.oth.size ≤ 9223372036854775807) (hk : c.kind = 5) (ht : 0 ≤ c.tag) (ht2 : c.tag < 2147483648) (hor : c.ord = 0 ∨ c.ord = 1) :
    Calls Tryd.prog 43 #[c.val] w fun e w' => e = .returned (.bool (bodyB c)) ∧ Below w.heap.size w w' := by
  rcases hor with hor | hor
  all_goals
    go_enter Tryd.func43, Tryd.ntmps43
    (go_wp2_with (first
      | (go_at_call 69; refine (refName_any _ _ (by assumption)).mono ?_; rintro e w' ⟨rfl, rfl⟩)
      | (go_at_call 70; refine (within_any _ _ _).mono ?_; rintro e w' ⟨rfl, rfl⟩)))
    all_goals (go_ret; refine ⟨ret_bool ?_, below_box _ _ _⟩; simp [bodyB, bareB, emptyB, *] <;> (intros; omega))
set_option maxHeartbeats 4000000 in
set_option maxRecDepth 100000 in
theorem refValid_6 (c : Cmd) (w : World) (hv : c.vol.size ≤ 9223372036854775807) (ho : c.oth.size ≤ 9223372036854775807) (hk : c.kind = 6) (ht : 0 ≤ c.tag) (ht2 : c.tag < 2147483648) (hor : c.ord = 0 ∨ c.ord = 1) :
    Calls Tryd.prog 43 #[c.val] w fun e w' => e = .returned (.bool (bodyB c)) ∧ Below w.heap.size w w' := by
  rcases hor with hor | hor
  all_goals
    go_enter Tryd.func43, Tryd.ntmps43
    (go_wp2_with (first
      | (go_at_call 69; refine (refName_any _ _ (by assumption)).mono ?_; rintro e w' ⟨rfl, rfl⟩)
      | (go_at_call 70; refine (within_any _ _ _).mono ?_; rintro e w' ⟨rfl, rfl⟩)))
    all_goals (go_ret; refine ⟨ret_bool ?_, below_box _ _ _⟩; simp [bodyB, bareB, emptyB, *] <;> (intros; omega))
set_option maxHeartbeats 4000000 in
set_option maxRecDepth 100000 in
theorem refValid_7 (c : Cmd) (w : World) (hv : c.vol.size ≤ 9223372036854775807) (ho : c.oth.size ≤ 9223372036854775807) (hk : c.kind = 7) (ht : 0 ≤ c.tag) (ht2 : c.tag < 2147483648) (hor : c.ord = 0 ∨ c.ord = 1) :
    Calls Tryd.prog 43 #[c.val] w fun e w' => e = .returned (.bool (bodyB c)) ∧ Below w.heap.size w w' := by
  rcases hor with hor | hor
  all_goals
    go_enter Tryd.func43, Tryd.ntmps43
    (go_wp2_with (first
      | (go_at_call 69; refine (refName_any _ _ (by assumption)).mono ?_; rintro e w' ⟨rfl, rfl⟩)
      | (go_at_call 70; refine (within_any _ _ _).mono ?_; rintro e w' ⟨rfl, rfl⟩)))
    all_goals (go_ret; refine ⟨ret_bool ?_, below_box _ _ _⟩; simp [bodyB, bareB, emptyB, *] <;> (intros; omega))
set_option maxHeartbeats 4000000 in
set_option maxRecDepth 100000 in
theorem refValid_8 (c : Cmd) (w : World) (hv : c.vol.size ≤ 9223372036854775807) (ho : c.oth.size ≤ 9223372036854775807) (h1 : (c.kind == 1) = false) (h2 : (c.kind == 2) = false) (h3 : (c.kind == 3) = false) (h4 : (c.kind == 4) = false) (h5 : (c.kind == 5) = false) (h6 : (c.kind == 6) = false) (h7 : (c.kind == 7) = false) (ht : 0 ≤ c.tag) (ht2 : c.tag < 2147483648) (hor : c.ord = 0 ∨ c.ord = 1) :
    Calls Tryd.prog 43 #[c.val] w fun e w' => e = .returned (.bool (bodyB c)) ∧ Below w.heap.size w w' := by
  have hB : bodyB c = false := by
    simp only [beq_eq_false_iff_ne, ne_eq] at h1 h2 h3 h4 h5 h6 h7
    simp only [bodyB, h1, h2, h3, h4, h5, h6, h7, if_false]
  have HB := Lib.hid hB; clear hB
  rcases hor with hor | hor
  all_goals
    go_enter Tryd.func43, Tryd.ntmps43
    (go_wp2_with (first
      | (go_at_call 69; refine (refName_any _ _ (by assumption)).mono ?_; rintro e w' ⟨rfl, rfl⟩)
      | (go_at_call 70; refine (within_any _ _ _).mono ?_; rintro e w' ⟨rfl, rfl⟩)))
    all_goals (go_ret; refine ⟨ret_bool HB.out.symm, below_box _ _ _⟩)
end Go.Proofs.YtfbafjlhdbjgoaaDoor
