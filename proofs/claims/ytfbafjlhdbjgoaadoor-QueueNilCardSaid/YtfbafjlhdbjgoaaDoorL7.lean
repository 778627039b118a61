/- The walk of QueueNil. -/
import Derived.Test.YtfbafjlhdbjgoaaDoorQ13
namespace Go.Proofs.YtfbafjlhdbjgoaaDoor
set_option linter.unusedVariables false
set_option linter.unusedSimpArgs false
open Go.RowKit Go.Sort
set_option maxRecDepth 100000

theorem tagsNil (w : World) : Calls Tryd.prog 31 #[.pointer none] w fun e w' => e = .returned (.slice none 0 0) ∧ RowKit.Below w.heap.size w w' := by
  go_enter Tryd.func31, Tryd.ntmps31
  go_wp2_with fail
  refine (filterNil _ _).mono ?_
  rintro e w1 ⟨rfl, hB⟩
  go_wp2
  go_ret
  exact ⟨rfl, hB⟩
theorem startedNil (w : World) : Calls Tryd.prog 32 #[.pointer none] w fun e w' => e = .returned (.slice none 0 0) ∧ RowKit.Below w.heap.size w w' := by
  have hmf : ∀ (fn : Fn) (first cap : Array Value) (w : World), (Instr.makeFunc fn first cap).run Tryd.prog w = .ok (.func fn first cap) w := fun _ _ _ _ => rfl
  have hb := below_box w #[.pointer none] 37
  go_enter Tryd.func32, Tryd.ntmps32
  go_wp2_with fail
  refine (filterNil _ _).mono ?_
  rintro e w1 ⟨rfl, hB⟩
  go_wp2
  go_ret
  exact ⟨rfl, hb.trans (hB.mono hb.size)⟩
theorem eligibleNil (w : World) : Calls Tryd.prog 33 #[.pointer none] w fun e w' => e = .returned (.slice none 0 0) ∧ RowKit.Below w.heap.size w w' := by
  have hmf : ∀ (fn : Fn) (first cap : Array Value) (w : World), (Instr.makeFunc fn first cap).run Tryd.prog w = .ok (.func fn first cap) w := fun _ _ _ _ => rfl
  have hb := below_box w #[.pointer none] 37
  go_enter Tryd.func33, Tryd.ntmps33
  go_wp2_with fail
  refine (filterNil _ _).mono ?_
  rintro e w1 ⟨rfl, hB⟩
  go_wp2
  go_ret
  exact ⟨rfl, hb.trans (hB.mono hb.size)⟩

set_option maxHeartbeats 4000000 in
theorem getNil (tag : Int) (w : World) : Calls Tryd.prog 34 #[.pointer none, .int .i64 tag] w fun e w' => e = .returned (.tuple #[cmdz.val, .bool false]) ∧ RowKit.Below w.heap.size w w' := by
  have hb := below_box w cmdz.arr 24
  go_enter Tryd.func34, Tryd.ntmps34
  go_wp2_with fail
  refine (knownNil_any tag _).mono ?_
  rintro e w1 ⟨rfl, hB1⟩
  have hBw := hb.trans (hB1.mono hb.size)
  have e0 : w1.heap[w.heap.size]? = some (.cells cmdz.arr 24 (0, 0)) := (hB1.block w.heap.size (by simp)).trans (heap_alloc_new w _)
  have HE := Lib.hid e0
  have z0 : w1.cell? ⟨w.heap.size, 0, none⟩ = some (.int .i64 0) := by rw [World.cell?, e0]; rfl
  have z1 : w1.cell? ⟨w.heap.size, 1, none⟩ = some (.int .i64 0) := by rw [World.cell?, e0]; rfl
  have z2 : w1.cell? ⟨w.heap.size, 2, none⟩ = some (.int .i64 0) := by rw [World.cell?, e0]; rfl
  have z3 : w1.cell? ⟨w.heap.size, 3, none⟩ = some (.bool false) := by rw [World.cell?, e0]; rfl
  have z4 : w1.cell? ⟨w.heap.size, 4, none⟩ = some (.string ⟨#[]⟩) := by rw [World.cell?, e0]; rfl
  have z5 : w1.cell? ⟨w.heap.size, 5, none⟩ = some (.string ⟨#[]⟩) := by rw [World.cell?, e0]; rfl
  have z6 : w1.cell? ⟨w.heap.size, 6, none⟩ = some (.int .i64 0) := by rw [World.cell?, e0]; rfl
  have z7 : w1.cell? ⟨w.heap.size, 7, none⟩ = some (.int .i64 0) := by rw [World.cell?, e0]; rfl
  have z8 : w1.cell? ⟨w.heap.size, 8, none⟩ = some (.slice none 0 0) := by rw [World.cell?, e0]; rfl
  have f1 : ∀ j, w1.frozen? ⟨w.heap.size, j, none⟩ = false := fun j => by simp [World.frozen?, e0]
  clear e0 hb hB1
  go_wp2_with fail
  have r9 := set_row (set_row (set_row (set_row (set_row (set_row (set_row (set_row (set_row HE.out 0 (.int .i64 0)) 1 (.int .i64 0)) 2 (.int .i64 0)) 3 (.bool false)) 4 (.string ⟨#[]⟩)) 5 (.string ⟨#[]⟩)) 6 (.int .i64 0)) 7 (.int .i64 0)) 8 (.slice none 0 0)
  have hBz := (((((((((hBw.setCell (p := ⟨w.heap.size, 0, none⟩) (Nat.le_refl _) (.int .i64 0)).setCell (p := ⟨w.heap.size, 1, none⟩) (Nat.le_refl _) (.int .i64 0)).setCell (p := ⟨w.heap.size, 2, none⟩) (Nat.le_refl _) (.int .i64 0)).setCell (p := ⟨w.heap.size, 3, none⟩) (Nat.le_refl _) (.bool false)).setCell (p := ⟨w.heap.size, 4, none⟩) (Nat.le_refl _) (.string ⟨#[]⟩)).setCell (p := ⟨w.heap.size, 5, none⟩) (Nat.le_refl _) (.string ⟨#[]⟩)).setCell (p := ⟨w.heap.size, 6, none⟩) (Nat.le_refl _) (.int .i64 0)).setCell (p := ⟨w.heap.size, 7, none⟩) (Nat.le_refl _) (.int .i64 0)).setCell (p := ⟨w.heap.size, 8, none⟩) (Nat.le_refl _) (.slice none 0 0))
  generalize (((((((((w1.setCell ⟨w.heap.size, 0, none⟩ (.int .i64 0)).setCell ⟨w.heap.size, 1, none⟩ (.int .i64 0)).setCell ⟨w.heap.size, 2, none⟩ (.int .i64 0)).setCell ⟨w.heap.size, 3, none⟩ (.bool false)).setCell ⟨w.heap.size, 4, none⟩ (.string ⟨#[]⟩)).setCell ⟨w.heap.size, 5, none⟩ (.string ⟨#[]⟩)).setCell ⟨w.heap.size, 6, none⟩ (.int .i64 0)).setCell ⟨w.heap.size, 7, none⟩ (.int .i64 0)).setCell ⟨w.heap.size, 8, none⟩ (.slice none 0 0)) = w2 at r9 hBz ⊢
  have r10 : w2.heap[w.heap.size]? = some (.cells cmdz.arr 24 (0, 0)) := r9
  refine bodyPost_ret (v := .tuple #[cmdz.val, .bool false]) ?_ rfl ⟨rfl, hBz⟩
  rw [results_cell_tmp Tryd.results34]
  simp [asAddr, run_loadVar_row (P := Tryd.prog) w2 w.heap.size 24 24 cmdz.arr (0, 0) _ r10 Tryd.underlying24 rfl (by kernel_rfl)]

set_option maxHeartbeats 4000000 in
theorem queueNil_walk (tag : Int) (w : World) : Calls Tryd.prog 7 #[.int .i64 tag] w fun e w' => e = .returned (.bool true) ∧ RowKit.Below w.heap.size w w' := by
  go_enter Tryd.func7, Tryd.ntmps7
  go_wp2_with fail
  refine (awake41_any _).mono ?_
  rintro e w1 ⟨rfl, hB1⟩
  go_wp2_with fail
  refine (getNil tag _).mono ?_
  rintro e w2 ⟨rfl, hB2⟩
  have hB := hB1.trans (hB2.mono hB1.size)
  have hBa := hB.trans ((below_box w2 cmdz.arr 24).mono hB.size)
  have hz : (w2.alloc (.cells cmdz.arr 24)).cell? ⟨w2.heap.size, 0, none⟩ = some (.int .i64 0) := by rw [World.cell?, heap_alloc_new]; rfl
  clear hB1 hB2 hB
  go_wp2_with fail
  refine (submitNil ⟨0, 4, 0, false, ⟨#[]⟩, ⟨#[]⟩, 0, 0, none, 0, []⟩ _).mono ?_
  rintro e w4 ⟨rfl, hB4⟩
  have hBb := hBa.trans (hB4.mono hBa.size)
  have hz4 := cell_keep hB4 hz
  clear hBa hB4 hz
  go_wp2_with fail
  refine (startNil tag _).mono ?_
  rintro e w5 ⟨rfl, hB5⟩
  have hBc := hBb.trans (hB5.mono hBb.size)
  have hz5 := cell_keep hB5 hz4
  clear hBb hB5 hz4
  go_wp2_with fail
  refine (finishNil tag _).mono ?_
  rintro e w6 ⟨rfl, hB6⟩
  have hBd := hBc.trans (hB6.mono hBc.size)
  have hz6 := cell_keep hB6 hz5
  clear hBc hB6 hz5
  go_wp2_with fail
  refine (cancelNil tag _).mono ?_
  rintro e w7 ⟨rfl, hB7⟩
  have hBe := hBd.trans (hB7.mono hBd.size)
  have hz7 := cell_keep hB7 hz6
  clear hBd hB7 hz6
  go_wp2_with fail
  refine (tagsNil _).mono ?_
  rintro e w8 ⟨rfl, hB8⟩
  have hBf := hBe.trans (hB8.mono hBe.size)
  clear hBe hB8 hz7
  go_wp2_with fail
  refine (startedNil _).mono ?_
  rintro e w9 ⟨rfl, hB9⟩
  have hBg := hBf.trans (hB9.mono hBf.size)
  clear hBf hB9
  go_wp2_with fail
  refine (eligibleNil _).mono ?_
  rintro e w10 ⟨rfl, hB10⟩
  have hBh := hBg.trans (hB10.mono hBg.size)
  clear hBg hB10
  go_wp2_with fail
  go_ret
  exact ⟨rfl, hBh⟩
end Go.Proofs.YtfbafjlhdbjgoaaDoor
