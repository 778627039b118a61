/- The walk of OrderBefore. -/
import Derived.Test.YtfbafjlhdbjgoaaDoorE2
namespace Go.Proofs.YtfbafjlhdbjgoaaDoor
set_option linter.unusedVariables false
set_option linter.unusedSimpArgs false
open Go.RowKit Go.Sort

set_option maxHeartbeats 2000000 in
set_option maxRecDepth 100000 in
theorem orderBefore_walk (a b : Cmd) (w : World) (ha : CmdOk w a) (hb : CmdOk w b) : Calls Tryd.prog 3 #[a.val, b.val] w fun e w' => e = .returned (.bool true) ∧ RowKit.Below w.heap.size w w' := by
  have v1 := ha.vs
  have v2 := ha.os
  have v3 := hb.vs
  have v4 := hb.os
  have v5 := ha.len
  have v6 := hb.len
  have h2 := Two.start 24 24 ha hb
  clear ha hb
  go_enter Tryd.func3, Tryd.ntmps3
  go_wp2_with fail
  refine (awake_any _).mono ?_
  rintro e w1 ⟨rfl, hB1⟩
  have T1 := h2.next hB1
  clear h2 hB1
  obtain ⟨p0, p1, p2, p3, p4, p5, p6, p7, p8⟩ := T1.ba
  obtain ⟨q0, q1, q2, q3, q4, q5, q6, q7, q8⟩ := T1.bb
  have oa := T1.oa
  have ob := T1.ob
  have C19 := Lib.hid (fun (x y : Cmd) (hx : CmdOk w1 x) (hy : CmdOk w1 y) => reg_below (wr := w1) fun W hW => before_any x y W (hx.mono hW) (hy.mono hW))
  have C20 := Lib.hid (fun (x y : Cmd) (hx : CmdOk w1 x) (hy : CmdOk w1 y) => reg_below (wr := w1) fun W hW => refBefore_any x y W (hx.mono hW) (hy.mono hW))
  have hBw := T1.bel
  clear T1
  go_wp2_with fail
  all_goals first
    | (go_ret; exact ⟨rfl, hBw⟩)
    | skip
  have P0 := cell_regrown p0
  have Q0 := cell_regrown q0
  have P1 := cell_regrown p1
  have Q1 := cell_regrown q1
  have P2 := cell_regrown p2
  have Q2 := cell_regrown q2
  have P3 := cell_regrown p3
  have Q3 := cell_regrown q3
  have P4 := cell_regrown p4
  have Q4 := cell_regrown q4
  have P5 := cell_regrown p5
  have Q5 := cell_regrown q5
  have P6 := cell_regrown p6
  have Q6 := cell_regrown q6
  have P7 := cell_regrown p7
  have Q7 := cell_regrown q7
  have P8 := cell_regrown p8
  have Q8 := cell_regrown q8
  clear p0 p1 p2 p3 p4 p5 p6 p7 p8 q0 q1 q2 q3 q4 q5 q6 q7 q8
  refine wp_region_quiet_below (by kernel_rfl) (by kernel_rfl) ?_
  repeat (go_big_quiet_step ((first | (go_at_call 19; exact C19.out _ _ (by first | exact oa | exact ob) (by first | exact oa | exact ob) _ _) | (go_at_call 20; exact C20.out _ _ (by first | exact oa | exact ob) (by first | exact oa | exact ob) _ _))))
  refine wpQuiet_nil ?_
  intro _ hw'
  obtain ⟨⟨dd, os'⟩, hw''⟩ := hw'
  subst hw''
  have hB2 : RowKit.Below w.heap.size w (grow (redrawn w1 dd) os') := hBw.trans ((below_regrown w1 dd os').mono hBw.size)
  generalize grow (redrawn w1 dd) os' = w2 at hB2 ⊢
  go_wp2
  go_ret
  exact ⟨rfl, hB2⟩
end Go.Proofs.YtfbafjlhdbjgoaaDoor
