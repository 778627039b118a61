/- Overlap and Before, both texts: one answer. -/
import Derived.Test.YtfbafjlhdbjgoaaDoorA9
namespace Go.Proofs.YtfbafjlhdbjgoaaDoor
set_option linter.unusedVariables false
set_option linter.unusedSimpArgs false
open Go.RowKit

theorem shares_comm (a b : Cmd) : sharesB b a = sharesB a b := by
  simp only [sharesB, namesB]
  rw [Bool.eq_iff_iff]
  simp
  grind

/-- The two ranges meet, and not both are reads. -/
def meetB (a b : Cmd) : Bool := a.vol.toList == b.vol.toList && (decide (a.pos < b.pos + b.len) && (decide (b.pos < a.pos + a.len) && (a.kind != 1 || b.kind != 1)))
def overlapB (a b : Cmd) : Bool := validB a && validB b && (if 5 ≤ a.kind ∨ 5 ≤ b.kind then sharesB a b else rangeB a && rangeB b && meetB a b)
def beforeB (a b : Cmd) : Bool := fenceB a || fenceB b || overlapB a b

/-- Two commands, boxed in the blocks behind w, in the world v. -/
structure Two (w : World) (a b : Cmd) (v : World) : Prop where
  bel : Below w.heap.size w v
  s0 : w.heap.size < v.heap.size
  s1 : w.heap.size + 1 < v.heap.size
  ba : Box v w.heap.size a
  bb : Box v (w.heap.size + 1) b
  oa : CmdOk v a
  ob : CmdOk v b
theorem Two.start {w : World} {a b : Cmd} (t u : TypeId) (ha : CmdOk w a) (hb : CmdOk w b) : Two w a b ((w.alloc (.cells a.arr t)).alloc (.cells b.arr u)) := by
  obtain ⟨h1, h2, h3, h4, h5⟩ := box2 (Below.refl (w.heap.size + 2) ((w.alloc (.cells a.arr t)).alloc (.cells b.arr u)))
  exact ⟨h1, h2, h3, h4, h5, ha.mono h1, hb.mono h1⟩
theorem Two.next {w v v' : World} {a b : Cmd} (h : Two w a b v) (hb : Below v.heap.size v v') : Two w a b v' :=
  ⟨h.bel.trans (hb.mono h.bel.size), Nat.lt_of_lt_of_le h.s0 hb.size, Nat.lt_of_lt_of_le h.s1 hb.size, h.ba.below hb h.s0, h.bb.below hb h.s1, h.oa.mono hb, h.ob.mono hb⟩

theorem valid_range {c : Cmd} (h : rangeB c = true) : 0 ≤ c.pos ∧ c.pos ≤ 65536 ∧ 1 ≤ c.len ∧ c.len ≤ 65536 := by
  simp [rangeB, validB] at h
  obtain ⟨⟨_, hb⟩, hk⟩ := h
  unfold bodyB at hb
  by_cases h1 : c.kind = 1
  · simp [h1, insideB] at hb; omega
  by_cases h2 : c.kind = 2
  · simp [h2, insideB] at hb; omega
  by_cases h3 : c.kind = 3
  · simp [h3, insideB] at hb; omega
  · rw [if_neg h1, if_neg h2, if_neg h3, if_neg (by omega), if_neg (by omega), if_neg (by omega), if_neg (by omega)] at hb
    cases hb

set_option maxHeartbeats 4000000 in
set_option maxRecDepth 100000 in
theorem overlap_no1 (a b : Cmd) (w : World) (ha : CmdOk w a) (hb : CmdOk w b) (h : validB a = false) :
    Calls Tryd.prog 51 #[a.val, b.val] w fun e w' => e = .returned (.bool (overlapB a b)) ∧ Below w.heap.size w w' := by
  have HE := Lib.hid (show overlapB a b = false by simp [overlapB, h])
  have T := Two.start 24 24 ha hb
  go_enter Tryd.func51, Tryd.ntmps51
  go_wp2_with fail
  refine (valid_any a _ T.oa).mono ?_
  rintro e w1 ⟨rfl, hB1⟩
  have T1 := T.next hB1
  go_wp2_with fail
  go_ret
  exact ⟨ret_bool HE.out.symm, T1.bel⟩
set_option maxHeartbeats 4000000 in
set_option maxRecDepth 100000 in
theorem overlap_no2 (a b : Cmd) (w : World) (ha : CmdOk w a) (hb : CmdOk w b) (h1 : validB a = true) (h : validB b = false) :
    Calls Tryd.prog 51 #[a.val, b.val] w fun e w' => e = .returned (.bool (overlapB a b)) ∧ Below w.heap.size w w' := by
  have HE := Lib.hid (show overlapB a b = false by simp [overlapB, h])
  have T := Two.start 24 24 ha hb
  go_enter Tryd.func51, Tryd.ntmps51
  go_wp2_with fail
  refine (valid_any a _ T.oa).mono ?_
  rintro e w1 ⟨rfl, hB1⟩
  have T1 := T.next hB1
  clear T hB1
  obtain ⟨q0, q1, q2, q3, q4, q5, q6, q7, q8⟩ := T1.bb
  go_wp2_with fail
  refine (valid_any b _ T1.ob).mono ?_
  rintro e w2 ⟨rfl, hB2⟩
  have T2 := T1.next hB2
  go_wp2_with fail
  go_ret
  exact ⟨ret_bool HE.out.symm, T2.bel⟩
set_option maxHeartbeats 4000000 in
set_option maxRecDepth 100000 in
theorem overlap_names (a b : Cmd) (w : World) (ha : CmdOk w a) (hb : CmdOk w b) (h1 : validB a = true) (h2 : validB b = true) (h : 5 ≤ a.kind ∨ 5 ≤ b.kind) :
    Calls Tryd.prog 51 #[a.val, b.val] w fun e w' => e = .returned (.bool (overlapB a b)) ∧ Below w.heap.size w w' := by
  have HE := Lib.hid (show overlapB a b = sharesB a b by simp [overlapB, h1, h2, h])
  have T := Two.start 24 24 ha hb
  rcases (show 5 ≤ a.kind ∨ (a.kind < 5 ∧ 5 ≤ b.kind) by omega) with k1 | ⟨k1, k2⟩
  all_goals
    clear h
    go_enter Tryd.func51, Tryd.ntmps51
    go_wp2_with fail
    refine (valid_any a _ T.oa).mono ?_
    rintro e w1 ⟨rfl, hB1⟩
    have T1 := T.next hB1
    clear T hB1
    obtain ⟨q0, q1, q2, q3, q4, q5, q6, q7, q8⟩ := T1.bb
    go_wp2_with fail
    refine (valid_any b _ T1.ob).mono ?_
    rintro e w2 ⟨rfl, hB2⟩
    have T2 := T1.next hB2
    clear q0 q1 q2 q3 q4 q5 q6 q7 q8
    obtain ⟨p0, p1, p2, p3, p4, p5, p6, p7, p8⟩ := T2.ba
    obtain ⟨q0, q1, q2, q3, q4, q5, q6, q7, q8⟩ := T2.bb
    go_wp2_with fail
    refine (shares_any a b _).mono ?_
    rintro e w3 ⟨rfl, hB3⟩
    have T3 := T2.next hB3
    go_wp2_with fail
    go_ret
    exact ⟨ret_bool HE.out.symm, T3.bel⟩
set_option maxHeartbeats 4000000 in
set_option maxRecDepth 100000 in
theorem overlap_ranges (a b : Cmd) (w : World) (ha : CmdOk w a) (hb : CmdOk w b) (h1 : rangeB a = true) (h2 : rangeB b = true) :
    Calls Tryd.prog 51 #[a.val, b.val] w fun e w' => e = .returned (.bool (overlapB a b)) ∧ Below w.heap.size w w' := by
  have hr := h1
  have hr' := h2
  simp [rangeB] at hr hr'
  obtain ⟨v1, k1⟩ := hr
  obtain ⟨v2, k2⟩ := hr'
  have HE := Lib.hid (show overlapB a b = meetB a b by
    rw [overlapB, if_neg (by omega), h1, h2, v1, v2]; simp)
  obtain ⟨a1, a2, a3, a4⟩ := valid_range h1
  obtain ⟨b1, b2, b3, b4⟩ := valid_range h2
  have H1 := Lib.hid h1
  have H2 := Lib.hid h2
  clear h1 h2
  have T := Two.start 24 24 ha hb
  go_enter Tryd.func51, Tryd.ntmps51
  go_wp2_with fail
  refine (valid_any a _ T.oa).mono ?_
  rintro e w1 ⟨rfl, hB1⟩
  have T1 := T.next hB1
  clear T hB1
  obtain ⟨q0, q1, q2, q3, q4, q5, q6, q7, q8⟩ := T1.bb
  go_wp2_with fail
  refine (valid_any b _ T1.ob).mono ?_
  rintro e w2 ⟨rfl, hB2⟩
  have T2 := T1.next hB2
  clear q0 q1 q2 q3 q4 q5 q6 q7 q8 T1 hB2
  obtain ⟨p0, p1, p2, p3, p4, p5, p6, p7, p8⟩ := T2.ba
  obtain ⟨q0, q1, q2, q3, q4, q5, q6, q7, q8⟩ := T2.bb
  go_wp2_with fail
  refine (range_yes a _ T2.oa H1.out).mono ?_
  rintro e w3 ⟨rfl, hB3⟩
  have T3 := T2.next hB3
  clear q0 q1 q2 q3 q4 q5 q6 q7 q8 p0 p1 p2 p3 p4 p5 p6 p7 p8 T2 hB3
  obtain ⟨q0, q1, q2, q3, q4, q5, q6, q7, q8⟩ := T3.bb
  go_wp2_with fail
  refine (range_yes b _ T3.ob H2.out).mono ?_
  rintro e w4 ⟨rfl, hB4⟩
  have T4 := T3.next hB4
  clear q0 q1 q2 q3 q4 q5 q6 q7 q8 T3 hB4
  obtain ⟨p0, p1, p2, p3, p4, p5, p6, p7, p8⟩ := T4.ba
  obtain ⟨q0, q1, q2, q3, q4, q5, q6, q7, q8⟩ := T4.bb
  go_wp2_with fail
  all_goals (go_ret; refine ⟨ret_bool (Eq.trans ?_ HE.out.symm), T4.bel⟩; clear p0 p1 p2 p3 p4 p5 p6 p7 p8 q0 q1 q2 q3 q4 q5 q6 q7 q8 T4 HE H1 H2; simp [meetB, *] <;> (intros; omega))
def rv (c : Cmd) : ByteArray := if rangeB c = true then c.vol else ⟨#[]⟩
def rp (c : Cmd) : Int := if rangeB c = true then c.pos else 0
def rl (c : Cmd) : Int := if rangeB c = true then c.len else 0
theorem range_any (c : Cmd) (w : World) (h : CmdOk w c) :
    Calls Tryd.prog 74 #[c.val] w fun e w' => e = .returned (.tuple #[.string (rv c), .int .i64 (rp c), .int .i64 (rl c), .bool (rangeB c)]) ∧ Below w.heap.size w w' := by
  by_cases hr : rangeB c = true
  · simp only [rv, rp, rl, hr, if_true]; exact range_yes c w h hr
  · have hf : rangeB c = false := by simpa using hr
    simp only [rv, rp, rl, hr, hf, if_false]; exact range_no c w h hf
theorem refRange_any (c : Cmd) (w : World) (h : CmdOk w c) :
    Calls Tryd.prog 75 #[c.val] w fun e w' => e = .returned (.tuple #[.string (rv c), .int .i64 (rp c), .int .i64 (rl c), .bool (rangeB c)]) ∧ Below w.heap.size w w' := by
  by_cases hr : rangeB c = true
  · simp only [rv, rp, rl, hr, if_true]; exact refRange_yes c w h hr
  · have hf : rangeB c = false := by simpa using hr
    simp only [rv, rp, rl, hr, hf, if_false]; exact refRange_no c w h hf

set_option maxHeartbeats 4000000 in
set_option maxRecDepth 100000 in
theorem overlap_flush (a b : Cmd) (w : World) (ha : CmdOk w a) (hb : CmdOk w b) (v1 : validB a = true) (v2 : validB b = true) (k1 : a.kind < 5) (k2 : b.kind < 5) (h : rangeB a = false ∨ (rangeB a = true ∧ rangeB b = false)) :
    Calls Tryd.prog 51 #[a.val, b.val] w fun e w' => e = .returned (.bool (overlapB a b)) ∧ Below w.heap.size w w' := by
  have HE := Lib.hid (show overlapB a b = false by
    rw [overlapB, if_neg (by omega)]
    rcases h with h | ⟨h1, h⟩ <;> simp [h])
  rcases h with h | ⟨h, h'⟩
  all_goals
    have T := Two.start 24 24 ha hb
    go_enter Tryd.func51, Tryd.ntmps51
    go_wp2_with fail
    refine (valid_any a _ T.oa).mono ?_
    rintro e w1 ⟨rfl, hB1⟩
    have T1 := T.next hB1
    clear T hB1
    obtain ⟨q0, q1, q2, q3, q4, q5, q6, q7, q8⟩ := T1.bb
    go_wp2_with fail
    refine (valid_any b _ T1.ob).mono ?_
    rintro e w2 ⟨rfl, hB2⟩
    have T2 := T1.next hB2
    clear q0 q1 q2 q3 q4 q5 q6 q7 q8 T1 hB2
    obtain ⟨p0, p1, p2, p3, p4, p5, p6, p7, p8⟩ := T2.ba
    obtain ⟨q0, q1, q2, q3, q4, q5, q6, q7, q8⟩ := T2.bb
    go_wp2_with fail
    refine (range_any a _ T2.oa).mono ?_
    rintro e w3 ⟨rfl, hB3⟩
    have T3 := T2.next hB3
    clear q0 q1 q2 q3 q4 q5 q6 q7 q8 p0 p1 p2 p3 p4 p5 p6 p7 p8 T2 hB3
    obtain ⟨q0, q1, q2, q3, q4, q5, q6, q7, q8⟩ := T3.bb
    go_wp2_with fail
    refine (range_any b _ T3.ob).mono ?_
    rintro e w4 ⟨rfl, hB4⟩
    have T4 := T3.next hB4
    clear q0 q1 q2 q3 q4 q5 q6 q7 q8 T3 hB4
    go_wp2_with fail
    go_ret
    exact ⟨ret_bool HE.out.symm, T4.bel⟩

theorem overlap_any (a b : Cmd) (w : World) (ha : CmdOk w a) (hb : CmdOk w b) :
    Calls Tryd.prog 51 #[a.val, b.val] w fun e w' => e = .returned (.bool (overlapB a b)) ∧ Below w.heap.size w w' := by
  by_cases v1 : validB a = true
  · by_cases v2 : validB b = true
    · by_cases hk : 5 ≤ a.kind ∨ 5 ≤ b.kind
      · exact overlap_names a b w ha hb v1 v2 hk
      · by_cases r1 : rangeB a = true
        · by_cases r2 : rangeB b = true
          · exact overlap_ranges a b w ha hb r1 r2
          · exact overlap_flush a b w ha hb v1 v2 (by omega) (by omega) (.inr ⟨r1, by simpa using r2⟩)
        · exact overlap_flush a b w ha hb v1 v2 (by omega) (by omega) (.inl (by simpa using r1))
    · exact overlap_no2 a b w ha hb v1 (by simpa using v2)
  · exact overlap_no1 a b w ha hb (by simpa using v1)

/-! ### The reference -/

set_option maxHeartbeats 4000000 in
set_option maxRecDepth 100000 in
theorem refOverlap_no1 (a b : Cmd) (w : World) (ha : CmdOk w a) (hb : CmdOk w b) (h : validB a = false) :
    Calls Tryd.prog 52 #[a.val, b.val] w fun e w' => e = .returned (.bool (overlapB a b)) ∧ Below w.heap.size w w' := by
  have HE := Lib.hid (show overlapB a b = false by simp [overlapB, h])
  have T := Two.start 24 24 ha hb
  go_enter Tryd.func52, Tryd.ntmps52
  go_wp2_with fail
  refine (refValid_any a _ T.oa.vm T.oa.om).mono ?_
  rintro e w1 ⟨rfl, hB1⟩
  have T1 := T.next hB1
  go_wp2_with fail
  go_ret
  exact ⟨ret_bool HE.out.symm, T1.bel⟩
set_option maxHeartbeats 4000000 in
set_option maxRecDepth 100000 in
theorem refOverlap_no2 (a b : Cmd) (w : World) (ha : CmdOk w a) (hb : CmdOk w b) (h1 : validB a = true) (h : validB b = false) :
    Calls Tryd.prog 52 #[a.val, b.val] w fun e w' => e = .returned (.bool (overlapB a b)) ∧ Below w.heap.size w w' := by
  have HE := Lib.hid (show overlapB a b = false by simp [overlapB, h])
  have T := Two.start 24 24 ha hb
  go_enter Tryd.func52, Tryd.ntmps52
  go_wp2_with fail
  refine (refValid_any a _ T.oa.vm T.oa.om).mono ?_
  rintro e w1 ⟨rfl, hB1⟩
  have T1 := T.next hB1
  clear T hB1
  obtain ⟨q0, q1, q2, q3, q4, q5, q6, q7, q8⟩ := T1.bb
  go_wp2_with fail
  refine (refValid_any b _ T1.ob.vm T1.ob.om).mono ?_
  rintro e w2 ⟨rfl, hB2⟩
  have T2 := T1.next hB2
  go_wp2_with fail
  go_ret
  exact ⟨ret_bool HE.out.symm, T2.bel⟩
set_option maxHeartbeats 4000000 in
set_option maxRecDepth 100000 in
theorem refOverlap_ranges (a b : Cmd) (w : World) (ha : CmdOk w a) (hb : CmdOk w b) (h1 : rangeB a = true) (h2 : rangeB b = true) :
    Calls Tryd.prog 52 #[a.val, b.val] w fun e w' => e = .returned (.bool (overlapB a b)) ∧ Below w.heap.size w w' := by
  have hr := h1
  have hr' := h2
  simp [rangeB] at hr hr'
  obtain ⟨v1, k1⟩ := hr
  obtain ⟨v2, k2⟩ := hr'
  have HE := Lib.hid (show overlapB a b = meetB a b by
    rw [overlapB, if_neg (by omega), h1, h2, v1, v2]; simp)
  obtain ⟨a1, a2, a3, a4⟩ := valid_range h1
  obtain ⟨b1, b2, b3, b4⟩ := valid_range h2
  have H1 := Lib.hid h1
  have H2 := Lib.hid h2
  clear h1 h2
  have T := Two.start 24 24 ha hb
  go_enter Tryd.func52, Tryd.ntmps52
  go_wp2_with fail
  refine (refValid_any a _ T.oa.vm T.oa.om).mono ?_
  rintro e w1 ⟨rfl, hB1⟩
  have T1 := T.next hB1
  clear T hB1
  obtain ⟨q0, q1, q2, q3, q4, q5, q6, q7, q8⟩ := T1.bb
  go_wp2_with fail
  refine (refValid_any b _ T1.ob.vm T1.ob.om).mono ?_
  rintro e w2 ⟨rfl, hB2⟩
  have T2 := T1.next hB2
  clear q0 q1 q2 q3 q4 q5 q6 q7 q8 T1 hB2
  obtain ⟨p0, p1, p2, p3, p4, p5, p6, p7, p8⟩ := T2.ba
  obtain ⟨q0, q1, q2, q3, q4, q5, q6, q7, q8⟩ := T2.bb
  go_wp2_with fail
  refine (refRange_yes a _ T2.oa H1.out).mono ?_
  rintro e w3 ⟨rfl, hB3⟩
  have T3 := T2.next hB3
  clear q0 q1 q2 q3 q4 q5 q6 q7 q8 p0 p1 p2 p3 p4 p5 p6 p7 p8 T2 hB3
  obtain ⟨q0, q1, q2, q3, q4, q5, q6, q7, q8⟩ := T3.bb
  go_wp2_with fail
  refine (refRange_yes b _ T3.ob H2.out).mono ?_
  rintro e w4 ⟨rfl, hB4⟩
  have T4 := T3.next hB4
  clear q0 q1 q2 q3 q4 q5 q6 q7 q8 T3 hB4
  obtain ⟨p0, p1, p2, p3, p4, p5, p6, p7, p8⟩ := T4.ba
  obtain ⟨q0, q1, q2, q3, q4, q5, q6, q7, q8⟩ := T4.bb
  go_wp2_with fail
  all_goals (go_ret; refine ⟨ret_bool (Eq.trans ?_ HE.out.symm), T4.bel⟩; clear p0 p1 p2 p3 p4 p5 p6 p7 p8 q0 q1 q2 q3 q4 q5 q6 q7 q8 T4 HE H1 H2; simp [meetB, *] <;> (intros; omega))
set_option maxHeartbeats 4000000 in
set_option maxRecDepth 100000 in
theorem refOverlap_few (a b : Cmd) (w : World) (ha : CmdOk w a) (hb : CmdOk w b) (v1 : validB a = true) (v2 : validB b = true) (k1 : a.kind < 5) (k2 : b.kind < 5) (h : rangeB a = false ∨ (rangeB a = true ∧ rangeB b = false)) :
    Calls Tryd.prog 52 #[a.val, b.val] w fun e w' => e = .returned (.bool (overlapB a b)) ∧ Below w.heap.size w w' := by
  have HE := Lib.hid (show overlapB a b = false by
    rw [overlapB, if_neg (by omega)]
    rcases h with h | ⟨h1, h⟩ <;> simp [h])
  rcases h with h | ⟨h, h'⟩
  all_goals
    have T := Two.start 24 24 ha hb
    go_enter Tryd.func52, Tryd.ntmps52
    go_wp2_with fail
    refine (refValid_any a _ T.oa.vm T.oa.om).mono ?_
    rintro e w1 ⟨rfl, hB1⟩
    have T1 := T.next hB1
    clear T hB1
    obtain ⟨q0, q1, q2, q3, q4, q5, q6, q7, q8⟩ := T1.bb
    go_wp2_with fail
    refine (refValid_any b _ T1.ob.vm T1.ob.om).mono ?_
    rintro e w2 ⟨rfl, hB2⟩
    have T2 := T1.next hB2
    clear q0 q1 q2 q3 q4 q5 q6 q7 q8 T1 hB2
    obtain ⟨p0, p1, p2, p3, p4, p5, p6, p7, p8⟩ := T2.ba
    obtain ⟨q0, q1, q2, q3, q4, q5, q6, q7, q8⟩ := T2.bb
    go_wp2_with fail
    refine (refRange_any a _ T2.oa).mono ?_
    rintro e w3 ⟨rfl, hB3⟩
    have T3 := T2.next hB3
    clear q0 q1 q2 q3 q4 q5 q6 q7 q8 p0 p1 p2 p3 p4 p5 p6 p7 p8 T2 hB3
    obtain ⟨q0, q1, q2, q3, q4, q5, q6, q7, q8⟩ := T3.bb
    go_wp2_with fail
    refine (refRange_any b _ T3.ob).mono ?_
    rintro e w4 ⟨rfl, hB4⟩
    have T4 := T3.next hB4
    clear q0 q1 q2 q3 q4 q5 q6 q7 q8 T3 hB4
    obtain ⟨p0, p1, p2, p3, p4, p5, p6, p7, p8⟩ := T4.ba
    obtain ⟨q0, q1, q2, q3, q4, q5, q6, q7, q8⟩ := T4.bb
    go_wp2_with fail
    go_ret
    exact ⟨ret_bool HE.out.symm, T4.bel⟩
set_option maxHeartbeats 4000000 in
set_option maxRecDepth 100000 in
theorem refOverlap_names (a b : Cmd) (w : World) (ha : CmdOk w a) (hb : CmdOk w b) (v1 : validB a = true) (v2 : validB b = true) (hk : 5 ≤ a.kind ∨ (a.kind < 5 ∧ 5 ≤ b.kind)) :
    Calls Tryd.prog 52 #[a.val, b.val] w fun e w' => e = .returned (.bool (overlapB a b)) ∧ Below w.heap.size w w' := by
  have HE := Lib.hid (show overlapB a b = (namesB a b.vol || namesB a b.oth) by
    rw [overlapB, if_pos (by omega), v1, v2, ← shares_comm]; simp [sharesB])
  have hr : rangeB a = false ∨ (rangeB a = true ∧ rangeB b = false) := by
    rcases hk with k | ⟨_, k⟩
    · exact .inl (by simp [rangeB]; omega)
    · have h2 : rangeB b = false := by simp [rangeB]; omega
      by_cases h1 : rangeB a = true
      · exact .inr ⟨h1, h2⟩
      · exact .inl (by simpa using h1)
  rcases hk with k1 | ⟨k1, k2⟩ <;> rcases hr with h | ⟨h, h'⟩
  all_goals
    have T := Two.start 24 24 ha hb
    go_enter Tryd.func52, Tryd.ntmps52
    go_wp2_with fail
    refine (refValid_any a _ T.oa.vm T.oa.om).mono ?_
    rintro e w1 ⟨rfl, hB1⟩
    have T1 := T.next hB1
    clear T hB1
    obtain ⟨q0, q1, q2, q3, q4, q5, q6, q7, q8⟩ := T1.bb
    go_wp2_with fail
    refine (refValid_any b _ T1.ob.vm T1.ob.om).mono ?_
    rintro e w2 ⟨rfl, hB2⟩
    have T2 := T1.next hB2
    clear q0 q1 q2 q3 q4 q5 q6 q7 q8 T1 hB2
    obtain ⟨p0, p1, p2, p3, p4, p5, p6, p7, p8⟩ := T2.ba
    obtain ⟨q0, q1, q2, q3, q4, q5, q6, q7, q8⟩ := T2.bb
    go_wp2_with fail
    refine (refRange_any a _ T2.oa).mono ?_
    rintro e w3 ⟨rfl, hB3⟩
    have T3 := T2.next hB3
    clear q0 q1 q2 q3 q4 q5 q6 q7 q8 p0 p1 p2 p3 p4 p5 p6 p7 p8 T2 hB3
    obtain ⟨q0, q1, q2, q3, q4, q5, q6, q7, q8⟩ := T3.bb
    go_wp2_with fail
    refine (refRange_any b _ T3.ob).mono ?_
    rintro e w4 ⟨rfl, hB4⟩
    have T4 := T3.next hB4
    clear q0 q1 q2 q3 q4 q5 q6 q7 q8 T3 hB4
    obtain ⟨p0, p1, p2, p3, p4, p5, p6, p7, p8⟩ := T4.ba
    obtain ⟨q0, q1, q2, q3, q4, q5, q6, q7, q8⟩ := T4.bb
    go_wp2_with fail
    refine (names_any a _ _).mono ?_
    rintro e w5 ⟨rfl, hB5⟩
    have T5 := T4.next hB5
    clear q0 q1 q2 q3 q4 q5 q6 q7 q8 p0 p1 p2 p3 p4 p5 p6 p7 p8 T4 hB5
    obtain ⟨p0, p1, p2, p3, p4, p5, p6, p7, p8⟩ := T5.ba
    obtain ⟨q0, q1, q2, q3, q4, q5, q6, q7, q8⟩ := T5.bb
    by_cases hn : namesB a b.vol = true
    · have HN := Lib.hid hn
      go_wp2_with fail
      go_ret
      exact ⟨ret_bool (by rw [HE.out, HN.out]; rfl), T5.bel⟩
    · have hn' : namesB a b.vol = false := by simpa using hn
      have HN := Lib.hid hn'
      clear hn
      go_wp2_with fail
      refine (names_any a _ _).mono ?_
      rintro e w6 ⟨rfl, hB6⟩
      have T6 := T5.next hB6
      go_wp2_with fail
      go_ret
      exact ⟨ret_bool (by rw [HE.out, HN.out]; rfl), T6.bel⟩

theorem refOverlap_any (a b : Cmd) (w : World) (ha : CmdOk w a) (hb : CmdOk w b) :
    Calls Tryd.prog 52 #[a.val, b.val] w fun e w' => e = .returned (.bool (overlapB a b)) ∧ Below w.heap.size w w' := by
  by_cases v1 : validB a = true
  · by_cases v2 : validB b = true
    · by_cases hk : 5 ≤ a.kind ∨ (a.kind < 5 ∧ 5 ≤ b.kind)
      · exact refOverlap_names a b w ha hb v1 v2 hk
      · by_cases r1 : rangeB a = true
        · by_cases r2 : rangeB b = true
          · exact refOverlap_ranges a b w ha hb r1 r2
          · exact refOverlap_few a b w ha hb v1 v2 (by omega) (by omega) (.inr ⟨r1, by simpa using r2⟩)
        · exact refOverlap_few a b w ha hb v1 v2 (by omega) (by omega) (.inl (by simpa using r1))
    · exact refOverlap_no2 a b w ha hb v1 (by simpa using v2)
  · exact refOverlap_no1 a b w ha hb (by simpa using v1)

/-! ### Before -/
set_option maxHeartbeats 4000000 in
set_option maxRecDepth 100000 in
theorem before_any (a b : Cmd) (w : World) (ha : CmdOk w a) (hb : CmdOk w b) :
    Calls Tryd.prog 19 #[a.val, b.val] w fun e w' => e = .returned (.bool (beforeB a b)) ∧ Below w.heap.size w w' := by
  have HE := Lib.hid (show beforeB a b = (fenceB a || fenceB b || overlapB a b) from rfl)
  have T := Two.start 24 24 ha hb
  go_enter Tryd.func19, Tryd.ntmps19
  go_wp2_with fail
  refine (fence_any a _).mono ?_
  rintro e w1 ⟨rfl, hB1⟩
  have T1 := T.next hB1
  clear T hB1
  obtain ⟨p0, p1, p2, p3, p4, p5, p6, p7, p8⟩ := T1.ba
  obtain ⟨q0, q1, q2, q3, q4, q5, q6, q7, q8⟩ := T1.bb
  cases hf : fenceB a with
  | true =>
    have HF := Lib.hid hf
    go_wp2_with fail
    go_ret
    exact ⟨ret_bool (by rw [HE.out, HF.out]; rfl), T1.bel⟩
  | false =>
    have HF := Lib.hid hf
    go_wp2_with fail
    refine (fence_any b _).mono ?_
    rintro e w2 ⟨rfl, hB2⟩
    have T2 := T1.next hB2
    clear p0 p1 p2 p3 p4 p5 p6 p7 p8 q0 q1 q2 q3 q4 q5 q6 q7 q8 T1 hB2
    obtain ⟨p0, p1, p2, p3, p4, p5, p6, p7, p8⟩ := T2.ba
    obtain ⟨q0, q1, q2, q3, q4, q5, q6, q7, q8⟩ := T2.bb
    cases hg : fenceB b with
    | true =>
      have HG := Lib.hid hg
      go_wp2_with fail
      go_ret
      exact ⟨ret_bool (by rw [HE.out, HF.out, HG.out]; rfl), T2.bel⟩
    | false =>
      have HG := Lib.hid hg
      go_wp2_with fail
      refine (overlap_any a b _ T2.oa T2.ob).mono ?_
      rintro e w3 ⟨rfl, hB3⟩
      have T3 := T2.next hB3
      go_wp2_with fail
      go_ret
      exact ⟨ret_bool (by rw [HE.out, HF.out, HG.out]; rfl), T3.bel⟩
set_option maxHeartbeats 4000000 in
set_option maxRecDepth 100000 in
theorem refBefore_any (a b : Cmd) (w : World) (ha : CmdOk w a) (hb : CmdOk w b) :
    Calls Tryd.prog 20 #[a.val, b.val] w fun e w' => e = .returned (.bool (beforeB a b)) ∧ Below w.heap.size w w' := by
  have HE := Lib.hid (show beforeB a b = (fenceB a || fenceB b || overlapB a b) from rfl)
  have T := Two.start 24 24 ha hb
  go_enter Tryd.func20, Tryd.ntmps20
  go_wp2_with fail
  refine (refFence_any a _).mono ?_
  rintro e w1 ⟨rfl, hB1⟩
  have T1 := T.next hB1
  clear T hB1
  obtain ⟨p0, p1, p2, p3, p4, p5, p6, p7, p8⟩ := T1.ba
  obtain ⟨q0, q1, q2, q3, q4, q5, q6, q7, q8⟩ := T1.bb
  cases hf : fenceB a with
  | true =>
    have HF := Lib.hid hf
    go_wp2_with fail
    go_ret
    exact ⟨ret_bool (by rw [HE.out, HF.out]; rfl), T1.bel⟩
  | false =>
    have HF := Lib.hid hf
    go_wp2_with fail
    refine (refFence_any b _).mono ?_
    rintro e w2 ⟨rfl, hB2⟩
    have T2 := T1.next hB2
    clear p0 p1 p2 p3 p4 p5 p6 p7 p8 q0 q1 q2 q3 q4 q5 q6 q7 q8 T1 hB2
    obtain ⟨p0, p1, p2, p3, p4, p5, p6, p7, p8⟩ := T2.ba
    obtain ⟨q0, q1, q2, q3, q4, q5, q6, q7, q8⟩ := T2.bb
    cases hg : fenceB b with
    | true =>
      have HG := Lib.hid hg
      go_wp2_with fail
      go_ret
      exact ⟨ret_bool (by rw [HE.out, HF.out, HG.out]; rfl), T2.bel⟩
    | false =>
      have HG := Lib.hid hg
      go_wp2_with fail
      refine (refOverlap_any a b _ T2.oa T2.ob).mono ?_
      rintro e w3 ⟨rfl, hB3⟩
      have T3 := T2.next hB3
      go_wp2_with fail
      go_ret
      exact ⟨ret_bool (by rw [HE.out, HF.out, HG.out]; rfl), T3.bel⟩
end Go.Proofs.YtfbafjlhdbjgoaaDoor
