/- The reference's Valid. -/
import Derived.Test.YtfbafjlhdbjgoaaDoorA3
import Derived.BigQuiet
namespace Go.Proofs.YtfbafjlhdbjgoaaDoor
set_option linter.unusedVariables false
set_option linter.unusedSimpArgs false
open Go.RowKit

def emptyB (s : ByteArray) : Bool := s.toList.isEmpty
def bareB (c : Cmd) : Bool := emptyB c.oth && decide (c.bs.length = 0)
/-- Tag and Order. -/
def headB (c : Cmd) : Bool := decide (0 ≤ c.tag ∧ c.tag < 2147483648) && (c.ord == 0 || c.ord == 1)
/-- What is asked of the other fields, by the kind. -/
def bodyB (c : Cmd) : Bool :=
  if c.kind = 1 then nameB c.vol && bareB c && !c.force && insideB c.pos c.len && decide (c.len ≤ 16)
  else if c.kind = 2 then nameB c.vol && emptyB c.oth && insideB c.pos c.len && decide (c.len ≤ 16) && ((c.bs.length : Int) == c.len)
  else if c.kind = 3 then nameB c.vol && bareB c && insideB c.pos c.len
  else if c.kind = 4 then emptyB c.vol && bareB c && !c.force && (c.pos == 0) && (c.len == 0)
  else if c.kind = 5 then nameB c.vol && bareB c && !c.force && decide (1 ≤ c.len ∧ c.len ≤ 65536 ∧ 0 ≤ c.pos ∧ c.pos ≤ c.len)
  else if c.kind = 6 then nameB c.vol && nameB c.oth && !(c.oth.toList == c.vol.toList) && decide (c.bs.length = 0) && !c.force && (c.pos == 0) && (c.len == 0)
  else if c.kind = 7 then nameB c.vol && bareB c && !c.force && (c.pos == 0) && (c.len == 0)
  else false
def validB (c : Cmd) : Bool := headB c && bodyB c

set_option maxHeartbeats 4000000 in
set_option maxRecDepth 100000 in
theorem refValid_1 (c : Cmd) (w : World) (hv : c.vol.size ≤ 9223372036854775807) (ho : c.oth.size ≤ 9223372036854775807) (hk : c.kind = 1) (ht : 0 ≤ c.tag) (ht2 : c.tag < 2147483648) (hor : c.ord = 0 ∨ c.ord = 1) :
    Calls Tryd.prog 43 #[c.val] w fun e w' => e = .returned (.bool (bodyB c)) ∧ Below w.heap.size w w' := by
  rcases hor with hor | hor
  all_goals
    go_enter Tryd.func43, Tryd.ntmps43
    (go_wp2_with (first
      | (go_at_call 69; refine (refName_any _ _ (by assumption)).mono ?_; rintro e w' ⟨rfl, rfl⟩)
      | (go_at_call 70; refine (within_any _ _ _).mono ?_; rintro e w' ⟨rfl, rfl⟩)))
    all_goals (go_ret; refine ⟨ret_bool ?_, below_box _ _ _⟩; simp [bodyB, bareB, emptyB, *] <;> (intros; omega))
set_option maxHeartbeats 4000000 in
set_option maxRecDepth 100000 in
theorem refValid_2 (c : Cmd) (w : World) (hv : c.vol.size ≤ 9223372036854775807) (ho : c.oth.size ≤ 9223372036854775807) (hk : c.kind = 2) (ht : 0 ≤ c.tag) (ht2 : c.tag < 2147483648) (hor : c.ord = 0 ∨ c.ord = 1) :
    Calls Tryd.prog 43 #[c.val] w fun e w' => e = .returned (.bool (bodyB c)) ∧ Below w.heap.size w w' := by
  rcases hor with hor | hor
  all_goals
    go_enter Tryd.func43, Tryd.ntmps43
    (go_wp2_with (first
      | (go_at_call 69; refine (refName_any _ _ (by assumption)).mono ?_; rintro e w' ⟨rfl, rfl⟩)
      | (go_at_call 70; refine (within_any _ _ _).mono ?_; rintro e w' ⟨rfl, rfl⟩)))
    all_goals (go_ret; refine ⟨ret_bool ?_, below_box _ _ _⟩; simp [bodyB, bareB, emptyB, *] <;> (intros; omega))
set_option maxHeartbeats 4000000 in
set_option maxRecDepth 100000 in
theorem refValid_3 (c : Cmd) (w : World) (hv : c.vol.size ≤ 9223372036854775807) (ho : c.oth.size ≤ 9223372036854775807) (hk : c.kind = 3) (ht : 0 ≤ c.tag) (ht2 : c.tag < 2147483648) (hor : c.ord = 0 ∨ c.ord = 1) :
    Calls Tryd.prog 43 #[c.val] w fun e w' => e = .returned (.bool (bodyB c)) ∧ Below w.heap.size w w' := by
  rcases hor with hor | hor
  all_goals
    go_enter Tryd.func43, Tryd.ntmps43
    (go_wp2_with (first
      | (go_at_call 69; refine (refName_any _ _ (by assumption)).mono ?_; rintro e w' ⟨rfl, rfl⟩)
      | (go_at_call 70; refine (within_any _ _ _).mono ?_; rintro e w' ⟨rfl, rfl⟩)))
    all_goals (go_ret; refine ⟨ret_bool ?_, below_box _ _ _⟩; simp [bodyB, bareB, emptyB, *] <;> (intros; omega))
set_option maxHeartbeats 4000000 in
set_option maxRecDepth 100000 in
theorem refValid_4 (c : Cmd) (w : World) (hv : c.vol.size ≤ 9223372036854775807) (ho : c.oth.size ≤ 9223372036854775807) (hk : c.kind = 4) (ht : 0 ≤ c.tag) (ht2 : c.tag < 2147483648) (hor : c.ord = 0 ∨ c.ord = 1) :
    Calls Tryd.prog 43 #[c.val] w fun e w' => e = .returned (.bool (bodyB c)) ∧ Below w.heap.size w w' := by
  rcases hor with hor | hor
  all_goals
    go_enter Tryd.func43, Tryd.ntmps43
    (go_wp2_with (first
      | (go_at_call 69; refine (refName_any _ _ (by assumption)).mono ?_; rintro e w' ⟨rfl, rfl⟩)
      | (go_at_call 70; refine (within_any _ _ _).mono ?_; rintro e w' ⟨rfl, rfl⟩)))
    all_goals (go_ret; refine ⟨ret_bool ?_, below_box _ _ _⟩; simp [bodyB, bareB, emptyB, *] <;> (intros; omega))
end Go.Proofs.YtfbafjlhdbjgoaaDoor
