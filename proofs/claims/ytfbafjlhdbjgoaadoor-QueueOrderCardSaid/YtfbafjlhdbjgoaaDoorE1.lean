/- The example of the document: its list, and what the order's functions say of it. -/
import Derived.Test.YtfbafjlhdbjgoaaDoorB6
namespace Go.Proofs.YtfbafjlhdbjgoaaDoor
set_option linter.unusedVariables false
set_option linter.unusedSimpArgs false
open Go.RowKit Go.Sort

def zero8 : B8 := ⟨0, 0, 0, 0, 0, 0, 0, 0⟩
def ex0 (d : Option Addr) : Cmd := ⟨1, 2, 0, false, ⟨#[97]⟩, ⟨#[]⟩, 0, 4, d, 4, [zero8, zero8, zero8, zero8]⟩
def ex1 : Cmd := ⟨2, 1, 0, false, ⟨#[97]⟩, ⟨#[]⟩, 3, 2, none, 0, []⟩
def ex2 : Cmd := ⟨3, 1, 0, false, ⟨#[97]⟩, ⟨#[]⟩, 4, 2, none, 0, []⟩
def ex3 : Cmd := ⟨4, 4, 0, false, ⟨#[]⟩, ⟨#[]⟩, 0, 0, none, 0, []⟩
def exs (d : Option Addr) : List Cmd := [ex0 d, ex1, ex2, ex3]

set_option maxRecDepth 100000
theorem ex_b01 (d : Option Addr) : beforeB (ex0 d) ex1 = true := by kernel_rfl
theorem ex_b02 (d : Option Addr) : beforeB (ex0 d) ex2 = false := by kernel_rfl
theorem ex_b12 : beforeB ex1 ex2 = false := by kernel_rfl
theorem ex_b3 (c : Cmd) : beforeB c ex3 = true := by simp [beforeB, fenceB, ex3]
theorem ex_at0 (d : Option Addr) : befAt (exs d) 0 1 = true := ex_b01 d
theorem ex_at1 (d : Option Addr) : befAt (exs d) 0 2 = false := ex_b02 d
theorem ex_at2 (d : Option Addr) : befAt (exs d) 1 2 = false := ex_b12
theorem ex_at3 (d : Option Addr) : befAt (exs d) 0 3 = true := ex_b3 _
theorem ex_at4 (d : Option Addr) : befAt (exs d) 1 3 = true := ex_b3 _
theorem ex_at5 (d : Option Addr) : befAt (exs d) 2 3 = true := ex_b3 _
theorem ex_len (d : Option Addr) : (exs d).length = 4 := rfl
theorem range4 : List.range 4 = [0, 1, 2, 3] := rfl
theorem range3 : List.range 3 = [0, 1, 2] := rfl
theorem range2 : List.range 2 = [0, 1] := rfl
theorem range1 : List.range 1 = [0] := rfl
theorem ex_levels (d : Option Addr) : levels (exs d) = [0, 1, 0, 2] := by
  simp [levels, ex_len, lvTo, lvIn, ex_at0, ex_at1, ex_at2, ex_at3, ex_at4, ex_at5]; decide
theorem ex_elig (d : Option Addr) : elig (exs d) [] = [0, 2] := by
  simp [elig, eligTo, eligOk, ex_len, range4, range3, range2, range1, doneAt, ex_at0, ex_at1, ex_at2, ex_at3, ex_at4, ex_at5]
theorem ex_resp (d : Option Addr) : respB (exs d) [2, 0, 1, 3] = true := by
  simp [respB, respGo, freeTo, ex_len, range4, range3, range2, range1, doneAt, ex_at0, ex_at1, ex_at2, ex_at3, ex_at4, ex_at5]
theorem ex_resp2 (d : Option Addr) : respB (exs d) [1, 0, 2, 3] = false := by
  simp [respB, respGo, freeTo, ex_len, range4, range3, range2, range1, doneAt, ex_at0, ex_at1, ex_at2, ex_at3, ex_at4, ex_at5]

theorem info60 : (Tryd.prog.info? 60).map (fun i => (i.zero.map Value.cells, i.size, i.bytes)) = some (some #[.int .u8 0, .int .u8 0, .int .u8 0, .int .u8 0, .int .u8 0, .int .u8 0, .int .u8 0, .int .u8 0], 8, 8) := by kernel_rfl
theorem run_makeBlocks (w : World) : (Instr.makeSlice 22 (.int .i64 4) (.int .i64 4)).run Tryd.prog w = .ok (.slice (some ⟨w.heap.size, 0, none⟩) 4 4) (w.alloc (.cells (madeCells #[.int .u8 0, .int .u8 0, .int .u8 0, .int .u8 0, .int .u8 0, .int .u8 0, .int .u8 0, .int .u8 0] 32) 60)) := by
  have h := info60
  obtain ⟨i0, hi⟩ : ∃ i0, Tryd.prog.info? 60 = some i0 := by
    cases hx : Tryd.prog.info? 60 with
    | none => rw [hx] at h; cases h
    | some i0 => exact ⟨i0, rfl⟩
  rw [hi] at h
  simp only [Option.map_some, Option.some.injEq, Prod.mk.injEq] at h
  obtain ⟨hz, hs, hb⟩ := h
  obtain ⟨z, hz0, hz1⟩ := Option.map_eq_some_iff.1 hz
  have := run_make_rowN (P := Tryd.prog) 22 60 i0 z Tryd.underlying22 hi hz0 .i64 .i64 4 4 (by decide) (by rw [hb]; decide) (by decide) w
  rw [hs, hz1] at this
  exact this

theorem size_alloc1 (w : World) (o : Obj) : w.heap.size + 1 = (w.alloc o).heap.size := by unfold World.alloc; exact (Array.size_push ..).symm
theorem dat4 (w : World) : Dat (w.alloc (.cells (madeCells #[.int .u8 0, .int .u8 0, .int .u8 0, .int .u8 0, .int .u8 0, .int .u8 0, .int .u8 0, .int .u8 0] 32) 60)) (some ⟨w.heap.size, 0, none⟩) [zero8, zero8, zero8, zero8] := fun _ => ⟨w.heap.size, 0, rfl, fun i x hx => by
  have hc : ∀ j, j < 32 → (w.alloc (.cells (madeCells #[.int .u8 0, .int .u8 0, .int .u8 0, .int .u8 0, .int .u8 0, .int .u8 0, .int .u8 0, .int .u8 0] 32) 60)).cell? ⟨w.heap.size, j, none⟩ = some (.int .u8 0) := by
    intro j hj
    rw [World.cell?, heap_alloc_new]
    have e : madeCells #[Value.int .u8 0, .int .u8 0, .int .u8 0, .int .u8 0, .int .u8 0, .int .u8 0, .int .u8 0, .int .u8 0] 32 = (List.replicate 32 (Value.int .u8 0)).toArray := by kernel_rfl
    rw [e]
    simp only [List.getElem?_toArray, List.getElem?_replicate, hj, if_true]
    rfl
  have hi : i < 4 := (List.getElem?_eq_some_iff.1 hx).1
  have hx0 : x = zero8 := by
    have := List.mem_of_getElem? hx
    simpa using this
  subst hx0
  exact ⟨hc _ (by omega), hc _ (by omega), hc _ (by omega), hc _ (by omega), hc _ (by omega), hc _ (by omega), hc _ (by omega), hc _ (by omega)⟩⟩

set_option maxHeartbeats 1000000 in
theorem example_any (w : World) : Calls Tryd.prog 49 #[] w fun e w' => ∃ a d, e = .returned (.slice (some ⟨a, 0, none⟩) 4 4) ∧ (∀ (i : Nat) (c : Cmd), (exs d)[i]? = some c → CmdOk w' c) ∧ BoxAt w' a 0 (ex0 d) ∧ BoxAt w' a 9 ex1 ∧ BoxAt w' a 18 ex2 ∧ BoxAt w' a 27 ex3 ∧ Below w.heap.size w w' := by
  have hmk := run_makeBlocks
  go_enter Tryd.func49, Tryd.ntmps49
  go_wp2
  have hD := (dat4 w).mono ((Below.refl _ _).alloc (Nat.le_refl _) (.cells #[.int .i64 1, .int .i64 2, .int .i64 0, .bool false, .string ⟨#[97]⟩, .string ⟨#[]⟩, .int .i64 0, .int .i64 4, .slice (some ⟨w.heap.size, 0, none⟩) 4 4, .int .i64 2, .int .i64 1, .int .i64 0, .bool false, .string ⟨#[97]⟩, .string ⟨#[]⟩, .int .i64 3, .int .i64 2, .slice none 0 0, .int .i64 3, .int .i64 1, .int .i64 0, .bool false, .string ⟨#[97]⟩, .string ⟨#[]⟩, .int .i64 4, .int .i64 2, .slice none 0 0, .int .i64 4, .int .i64 4, .int .i64 0, .bool false, .string ⟨#[]⟩, .string ⟨#[]⟩, .int .i64 0, .int .i64 0, .slice none 0 0] 24))
  refine bodyPost_ret (results_tmp rfl _ _ _) rfl ?_
  refine ⟨w.heap.size + 1, some ⟨w.heap.size, 0, none⟩, rfl, ?_, ?_, ?_, ?_, ?_, below_two w _ _ _ _⟩
  · intro i c hc
    match i, hc with
    | 0, hc => cases hc; exact ⟨hD, by simp [ex0], by show (1 : Nat) ≤ _; decide, by show (0 : Nat) ≤ _; decide⟩
    | 1, hc => cases hc; exact ⟨fun h => absurd h (by decide), by simp [ex1], by decide, by decide⟩
    | 2, hc => cases hc; exact ⟨fun h => absurd h (by decide), by simp [ex2], by decide, by decide⟩
    | 3, hc => cases hc; exact ⟨fun h => absurd h (by decide), by simp [ex3], by decide, by decide⟩
  all_goals (simp only [BoxAt, World.cell?]; rw [size_alloc1 w (.cells (madeCells #[.int .u8 0, .int .u8 0, .int .u8 0, .int .u8 0, .int .u8 0, .int .u8 0, .int .u8 0, .int .u8 0] 32) 60)]; rw [heap_alloc_new]; exact ⟨rfl, rfl, rfl, rfl, rfl, rfl, rfl, rfl, rfl⟩)
end Go.Proofs.YtfbafjlhdbjgoaaDoor
