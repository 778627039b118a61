/- command.Valid for every command; Range, shares, names. -/
import Derived.Test.YtfbafjlhdbjgoaaDoorA7a
import Derived.Test.YtfbafjlhdbjgoaaDoorA7b
import Derived.Test.YtfbafjlhdbjgoaaDoorA7c
import Derived.BigQuiet
namespace Go.Proofs.YtfbafjlhdbjgoaaDoor
set_option linter.unusedVariables false
set_option linter.unusedSimpArgs false
open Go.RowKit

/-- A command that lies in this world. -/
structure CmdOk (w : World) (c : Cmd) : Prop where
  dat : Dat w c.da c.bs
  len : (c.bs.length : Int) ≤ 17592186044416
  vs : c.vol.size ≤ 140737488355328
  os : c.oth.size ≤ 140737488355328
theorem CmdOk.vm {w : World} {c : Cmd} (h : CmdOk w c) : c.vol.size ≤ 9223372036854775807 := Nat.le_trans h.vs (by decide)
theorem CmdOk.om {w : World} {c : Cmd} (h : CmdOk w c) : c.oth.size ≤ 9223372036854775807 := Nat.le_trans h.os (by decide)
theorem CmdOk.mono {w w' : World} {c : Cmd} (h : CmdOk w c) (hb : Below w.heap.size w w') : CmdOk w' c := ⟨h.dat.mono hb, h.len, h.vs, h.os⟩

set_option maxHeartbeats 4000000 in
set_option maxRecDepth 100000 in
theorem valid_no (c : Cmd) (w : World) (h : headB c = false) :
    Calls Tryd.prog 66 #[c.val] w fun e w' => e = .returned (.bool (validB c)) ∧ Below w.heap.size w w' := by
  have HB := Lib.hid (show validB c = false by simp [validB, h])
  rcases (show c.tag < 0 ∨ (0 ≤ c.tag ∧ 2147483647 < c.tag) ∨ (0 ≤ c.tag ∧ c.tag ≤ 2147483647 ∧ (c.ord != 0) = true ∧ (c.ord != 1) = true) by
    simp [headB] at h
    by_cases h0 : c.tag < 0
    · exact .inl h0
    · by_cases h1 : 2147483647 < c.tag
      · exact .inr (.inl ⟨by omega, h1⟩)
      · have := h (by omega) (by omega)
        exact .inr (.inr ⟨by omega, by omega, by simp [this.1], by simp [this.2]⟩)) with h0 | ⟨h0, h1⟩ | ⟨h0, h1, h2, h3⟩
  all_goals
    clear h
    go_enter Tryd.func66, Tryd.ntmps66
    go_wp2
    all_goals (go_ret; refine ⟨ret_bool HB.out.symm, below_box _ _ _⟩)
theorem valid_any (c : Cmd) (w : World) (h : CmdOk w c) :
    Calls Tryd.prog 66 #[c.val] w fun e w' => e = .returned (.bool (validB c)) ∧ Below w.heap.size w w' := by
  have hv := h.vm
  have ho := h.om
  obtain ⟨hd, hl, _, _⟩ := h
  by_cases hh : headB c = true
  · have e : validB c = bodyB c := by simp [validB, hh]
    rw [e]
    simp [headB] at hh
    obtain ⟨⟨ht, ht2⟩, hor⟩ := hh
    have t2 : c.tag ≤ 2147483647 := by omega
    have no : ∀ k : Int, ¬ c.kind = k → (c.kind == k) = false := fun k h => by simpa using h
    have yes : ∀ k : Int, c.kind = k → (c.kind == k) = true := fun k h => by simpa using h
    rcases hor with hor | hor
    · have h0 : (c.ord != 0) = false := by simp [hor]
      by_cases h1 : c.kind = 1
      · exact valid_1 c w hv ho hd hl (yes _ h1) ht t2 h0
      by_cases h2 : c.kind = 2
      · exact valid_2 c w hv ho hd hl (no _ h1) (yes _ h2) ht t2 h0
      by_cases h3 : c.kind = 3
      · exact valid_3 c w hv ho hd hl (no _ h1) (no _ h2) (yes _ h3) ht t2 h0
      by_cases h4 : c.kind = 4
      · exact valid_4 c w hv ho hd hl (no _ h1) (no _ h2) (no _ h3) (yes _ h4) ht t2 h0
      by_cases h5 : c.kind = 5
      · exact valid_5 c w hv ho hd hl (no _ h1) (no _ h2) (no _ h3) (no _ h4) (yes _ h5) ht t2 h0
      by_cases h6 : c.kind = 6
      · exact valid_6 c w hv ho hd hl (no _ h1) (no _ h2) (no _ h3) (no _ h4) (no _ h5) (yes _ h6) ht t2 h0
      by_cases h7 : c.kind = 7
      · exact valid_7 c w hv ho hd hl (no _ h1) (no _ h2) (no _ h3) (no _ h4) (no _ h5) (no _ h6) (yes _ h7) ht t2 h0
      exact valid_8 c w hv ho hd hl (no _ h1) (no _ h2) (no _ h3) (no _ h4) (no _ h5) (no _ h6) (no _ h7) ht t2 h0
    · have h0 : (c.ord != 0) = true := by simp [hor]
      have h0' : (c.ord != 1) = false := by simp [hor]
      by_cases h1 : c.kind = 1
      · exact valid_1o c w hv ho hd hl (yes _ h1) ht t2 h0 h0'
      by_cases h2 : c.kind = 2
      · exact valid_2o c w hv ho hd hl (no _ h1) (yes _ h2) ht t2 h0 h0'
      by_cases h3 : c.kind = 3
      · exact valid_3o c w hv ho hd hl (no _ h1) (no _ h2) (yes _ h3) ht t2 h0 h0'
      by_cases h4 : c.kind = 4
      · exact valid_4o c w hv ho hd hl (no _ h1) (no _ h2) (no _ h3) (yes _ h4) ht t2 h0 h0'
      by_cases h5 : c.kind = 5
      · exact valid_5o c w hv ho hd hl (no _ h1) (no _ h2) (no _ h3) (no _ h4) (yes _ h5) ht t2 h0 h0'
      by_cases h6 : c.kind = 6
      · exact valid_6o c w hv ho hd hl (no _ h1) (no _ h2) (no _ h3) (no _ h4) (no _ h5) (yes _ h6) ht t2 h0 h0'
      by_cases h7 : c.kind = 7
      · exact valid_7o c w hv ho hd hl (no _ h1) (no _ h2) (no _ h3) (no _ h4) (no _ h5) (no _ h6) (yes _ h7) ht t2 h0 h0'
      exact valid_8o c w hv ho hd hl (no _ h1) (no _ h2) (no _ h3) (no _ h4) (no _ h5) (no _ h6) (no _ h7) ht t2 h0 h0'
  · exact valid_no c w (by simpa using hh)

theorem results_tmp4 {fn : Func} {t u v x : Tmp} (h : fn.results = #[.tmp t, .tmp u, .tmp v, .tmp x]) (tmps : Array Value) (P : Program) (w : World) :
    (results fn tmps).run P w = .ok (.tuple #[tmps.getD t undef, tmps.getD u undef, tmps.getD v undef, tmps.getD x undef]) w := by simp [results, h]

/-- The command is a read, a write or a trim (and valid). -/
def rangeB (c : Cmd) : Bool := validB c && decide (c.kind ≤ 3)

theorem validB_kind {c : Cmd} (h : validB c = true) : 1 ≤ c.kind ∧ c.kind ≤ 7 := by
  simp [validB] at h
  have h2 := h.2
  unfold bodyB at h2
  by_cases h1 : 1 ≤ c.kind ∧ c.kind ≤ 7
  · exact h1
  · rw [if_neg (by omega), if_neg (by omega), if_neg (by omega), if_neg (by omega), if_neg (by omega), if_neg (by omega), if_neg (by omega)] at h2
    cases h2

set_option maxHeartbeats 1000000 in
set_option maxRecDepth 100000 in
theorem range_yes (c : Cmd) (w : World) (h : CmdOk w c) (hr : rangeB c = true) :
    Calls Tryd.prog 74 #[c.val] w fun e w' => e = .returned (.tuple #[.string c.vol, .int .i64 c.pos, .int .i64 c.len, .bool true]) ∧ Below w.heap.size w w' := by
  simp [rangeB] at hr
  obtain ⟨hv, hk⟩ := hr
  go_enter Tryd.func74, Tryd.ntmps74
  go_wp2_with fail
  refine (valid_any c _ (h.mono (below_box _ _ _))).mono ?_
  rintro e w1 ⟨rfl, hB1⟩
  obtain ⟨hB, hs1, p0, p1, p2, p3, p4, p5, p6, p7, p8⟩ := box1 (c := c) (t := 24) (by rw [World.size_alloc] at hB1; exact hB1)
  go_wp2_with fail
  go_quiet (fail)
  go_wp2
  refine bodyPost_ret (results_tmp4 rfl _ _ _) rfl ⟨rfl, below_drewN hB _⟩
set_option maxHeartbeats 1000000 in
set_option maxRecDepth 100000 in
theorem range_no (c : Cmd) (w : World) (h : CmdOk w c) (hr : rangeB c = false) :
    Calls Tryd.prog 74 #[c.val] w fun e w' => e = .returned (.tuple #[.string ⟨#[]⟩, .int .i64 0, .int .i64 0, .bool false]) ∧ Below w.heap.size w w' := by
  rcases (show validB c = false ∨ (validB c = true ∧ 3 < c.kind) by
    by_cases hv : validB c = true
    · simp [rangeB, hv] at hr
      exact .inr ⟨hv, hr⟩
    · exact .inl (by simpa using hv)) with hv | ⟨hv, hk⟩
  all_goals
    go_enter Tryd.func74, Tryd.ntmps74
    go_wp2_with fail
    refine (valid_any c _ (h.mono (below_box _ _ _))).mono ?_
    rintro e w1 ⟨rfl, hB1⟩
    obtain ⟨hB, hs1, p0, p1, p2, p3, p4, p5, p6, p7, p8⟩ := box1 (c := c) (t := 24) (by rw [World.size_alloc] at hB1; exact hB1)
    go_wp2_with fail
    refine bodyPost_ret (results_tmp4 rfl _ _ _) rfl ⟨rfl, hB⟩
end Go.Proofs.YtfbafjlhdbjgoaaDoor
