/- The reference's Valid, for every command. -/
import Derived.Test.YtfbafjlhdbjgoaaDoorA4b
namespace Go.Proofs.YtfbafjlhdbjgoaaDoor
set_option linter.unusedVariables false
set_option linter.unusedSimpArgs false
open Go.RowKit
set_option maxHeartbeats 4000000 in
set_option maxRecDepth 100000 in
theorem refValid_no (c : Cmd) (w : World) (h : headB c = false) :
    Calls Tryd.prog 43 #[c.val] w fun e w' => e = .returned (.bool (validB c)) ∧ Below w.heap.size w w' := by
  have HB := Lib.hid (show validB c = false by simp [validB, h])
  rcases (show c.tag < 0 ∨ (0 ≤ c.tag ∧ 2147483648 ≤ c.tag) ∨ (0 ≤ c.tag ∧ c.tag < 2147483648 ∧ (c.ord != 0) = true ∧ (c.ord != 1) = true) by
    simp [headB] at h
    by_cases h0 : c.tag < 0
    · exact .inl h0
    · by_cases h1 : 2147483648 ≤ c.tag
      · exact .inr (.inl ⟨by omega, h1⟩)
      · have := h (by omega) (by omega)
        exact .inr (.inr ⟨by omega, by omega, by simp [this.1], by simp [this.2]⟩)) with h0 | ⟨h0, h1⟩ | ⟨h0, h1, h2, h3⟩
  all_goals
    clear h
    go_enter Tryd.func43, Tryd.ntmps43
    go_wp2
    all_goals (go_ret; refine ⟨ret_bool HB.out.symm, below_box _ _ _⟩)
theorem refValid_any (c : Cmd) (w : World) (hv : c.vol.size ≤ 9223372036854775807) (ho : c.oth.size ≤ 9223372036854775807) :
    Calls Tryd.prog 43 #[c.val] w fun e w' => e = .returned (.bool (validB c)) ∧ Below w.heap.size w w' := by
  by_cases hh : headB c = true
  · have e : validB c = bodyB c := by simp [validB, hh]
    rw [e]
    simp [headB] at hh
    obtain ⟨⟨ht, ht2⟩, hor⟩ := hh
    by_cases h1 : c.kind = 1
    · exact refValid_1 c w hv ho h1 ht ht2 hor
    by_cases h2 : c.kind = 2
    · exact refValid_2 c w hv ho h2 ht ht2 hor
    by_cases h3 : c.kind = 3
    · exact refValid_3 c w hv ho h3 ht ht2 hor
    by_cases h4 : c.kind = 4
    · exact refValid_4 c w hv ho h4 ht ht2 hor
    by_cases h5 : c.kind = 5
    · exact refValid_5 c w hv ho h5 ht ht2 hor
    by_cases h6 : c.kind = 6
    · exact refValid_6 c w hv ho h6 ht ht2 hor
    by_cases h7 : c.kind = 7
    · exact refValid_7 c w hv ho h7 ht ht2 hor
    exact refValid_8 c w hv ho (by simpa using h1) (by simpa using h2) (by simpa using h3) (by simpa using h4) (by simpa using h5) (by simpa using h6) (by simpa using h7) ht ht2 hor
  · exact refValid_no c w (by simpa using hh)
end Go.Proofs.YtfbafjlhdbjgoaaDoor
