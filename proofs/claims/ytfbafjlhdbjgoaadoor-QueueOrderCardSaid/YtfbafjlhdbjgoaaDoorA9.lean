/- Overlap, both texts: one answer. -/
import Derived.Test.YtfbafjlhdbjgoaaDoorA8
import Derived.Test.YtfbafjlhdbjgoaaDoorA5
namespace Go.Proofs.YtfbafjlhdbjgoaaDoor
set_option linter.unusedVariables false
set_option linter.unusedSimpArgs false
open Go.RowKit

set_option maxHeartbeats 1000000 in
set_option maxRecDepth 100000 in
theorem refRange_yes (c : Cmd) (w : World) (h : CmdOk w c) (hr : rangeB c = true) :
    Calls Tryd.prog 75 #[c.val] w fun e w' => e = .returned (.tuple #[.string c.vol, .int .i64 c.pos, .int .i64 c.len, .bool true]) ∧ Below w.heap.size w w' := by
  simp [rangeB] at hr
  obtain ⟨hv, hk⟩ := hr
  have h1 := validB_kind hv
  rcases (show (c.kind != 1) = false ∨ ((c.kind != 1) = true ∧ (c.kind != 2) = false) ∨ ((c.kind != 1) = true ∧ (c.kind != 2) = true ∧ (c.kind != 3) = false) by
    rcases (show c.kind = 1 ∨ c.kind = 2 ∨ c.kind = 3 by omega) with e | e | e <;> simp [e]) with k1 | ⟨k1, k2⟩ | ⟨k1, k2, k3⟩
  all_goals
    clear hk h1
    go_enter Tryd.func75, Tryd.ntmps75
    go_wp2_with fail
    refine (refValid_any c _ h.vm h.om).mono ?_
    rintro e w1 ⟨rfl, hB1⟩
    obtain ⟨hB, hs1, p0, p1, p2, p3, p4, p5, p6, p7, p8⟩ := box1 (c := c) (t := 24) (by rw [World.size_alloc] at hB1; exact hB1)
    go_wp2_with fail
    go_quiet (fail)
    go_wp2
    refine bodyPost_ret (results_tmp4 rfl _ _ _) rfl ⟨rfl, below_drewN hB _⟩
set_option maxHeartbeats 1000000 in
set_option maxRecDepth 100000 in
theorem refRange_no (c : Cmd) (w : World) (h : CmdOk w c) (hr : rangeB c = false) :
    Calls Tryd.prog 75 #[c.val] w fun e w' => e = .returned (.tuple #[.string ⟨#[]⟩, .int .i64 0, .int .i64 0, .bool false]) ∧ Below w.heap.size w w' := by
  rcases (show validB c = false ∨ (validB c = true ∧ (c.kind != 1) = true ∧ (c.kind != 2) = true ∧ (c.kind != 3) = true) by
    by_cases hv : validB c = true
    · simp [rangeB, hv] at hr
      exact .inr ⟨hv, by rw [bne_iff_ne]; omega, by rw [bne_iff_ne]; omega, by rw [bne_iff_ne]; omega⟩
    · exact .inl (by simpa using hv)) with hv | ⟨hv, k1, k2, k3⟩
  all_goals
    clear hr
    go_enter Tryd.func75, Tryd.ntmps75
    go_wp2_with fail
    refine (refValid_any c _ h.vm h.om).mono ?_
    rintro e w1 ⟨rfl, hB1⟩
    obtain ⟨hB, hs1, p0, p1, p2, p3, p4, p5, p6, p7, p8⟩ := box1 (c := c) (t := 24) (by rw [World.size_alloc] at hB1; exact hB1)
    go_wp2_with fail
    refine bodyPost_ret (results_tmp4 rfl _ _ _) rfl ⟨rfl, hB⟩

/-- One of the command's names is this one (and not empty). -/
def namesB (c : Cmd) (n : ByteArray) : Bool := !n.toList.isEmpty && (c.vol.toList == n.toList || c.oth.toList == n.toList)
def sharesB (a b : Cmd) : Bool := namesB b a.vol || namesB b a.oth

set_option maxHeartbeats 1000000 in
set_option maxRecDepth 100000 in
theorem names_any (c : Cmd) (n : ByteArray) (w : World) :
    Calls Tryd.prog 76 #[c.val, .string n] w fun e w' => e = .returned (.bool (namesB c n)) ∧ Below w.heap.size w w' := by
  go_enter Tryd.func76, Tryd.ntmps76
  go_wp2
  all_goals (go_ret; refine ⟨ret_bool ?_, below_box _ _ _⟩; simp [namesB, *])

set_option maxHeartbeats 1000000 in
set_option maxRecDepth 100000 in
theorem shares_any (a b : Cmd) (w : World) :
    Calls Tryd.prog 73 #[a.val, b.val] w fun e w' => e = .returned (.bool (sharesB a b)) ∧ Below w.heap.size w w' := by
  have i0 : ∀ w, (Instr.index 86 (.agg #[.string a.vol, .string a.oth]) (.int .i64 0)).run Tryd.prog w = .ok (.string a.vol) w := fun _ => by kernel_rfl
  have i1 : ∀ w, (Instr.index 86 (.agg #[.string a.vol, .string a.oth]) (.int .i64 1)).run Tryd.prog w = .ok (.string a.oth) w := fun _ => by kernel_rfl
  go_enter Tryd.func73, Tryd.ntmps73
  go_wp2
  refine wp_loop_rounds 3 ?_
  rw [rounds_succ]
  go_wp2
  all_goals (try (rw [rounds_succ]; go_wp2))
  all_goals (try (rw [rounds_succ]; go_wp2))
  all_goals (go_ret; refine ⟨ret_bool ?_, below_two _ _ _ _ _⟩; clear i0 i1; simp only [sharesB, namesB]; rw [Bool.eq_iff_iff]; simp [*] <;> grind)
end Go.Proofs.YtfbafjlhdbjgoaaDoor
