/- Get of a queue that is there. -/
import Derived.Test.YtfbafjlhdbjgoaaDoorQ13
namespace Go.Proofs.YtfbafjlhdbjgoaaDoor
set_option linter.unusedVariables false
set_option linter.unusedSimpArgs false
open Go.RowKit Go.Sort
set_option maxRecDepth 100000

/-- What Get hands back. -/
def GetPost (w : World) (its : List QItem) (tag : Int) (e : Ending) (w' : World) : Prop :=
  match its.find? (fun x => x.1.tag == tag) with
  | none => e = .returned (.tuple #[cmdz.val, .bool false])
  | some x => ∃ da dc, e = .returned (.tuple #[(x.1.re da dc).val, .bool true]) ∧ CmdOk w' (x.1.re da dc) ∧ (∀ b o, da = some ⟨b, o, none⟩ → w.heap.size ≤ b) ∧ Thaw w' da
theorem result_pair {w2 : World} {g : Nat} {c : Cmd} {tmps : Array Value} {b : Bool} (h1 : tmps.getD 4 undef = .pointer (some ⟨g, 0, none⟩)) (h2 : tmps.getD 5 undef = .bool b) (r : w2.heap[g]? = some (.cells c.arr 24 (0, 0))) :
    (results Tryd.f34 tmps).run Tryd.prog w2 = .ok (.tuple #[c.val, .bool b]) w2 := by
  rw [results_cell_tmp Tryd.results34, h1, h2]
  simp [asAddr, run_loadVar_row (P := Tryd.prog) w2 g 24 24 c.arr (0, 0) _ r Tryd.underlying24 rfl (by kernel_rfl)]

set_option maxHeartbeats 4000000 in
theorem get_any {w : World} {q m1 m2 n : Nat} {tv : Value} {its : List QItem} (h : QAt w q m1 m2 n tv its) {tag : Int} (hk : (Lit.int .i64 tag).wf = true) :
    Calls Tryd.prog 34 #[.pointer (some ⟨q, 0, none⟩), .int .i64 tag] w fun e w' => GetPost w its tag e w' ∧ RowKit.Below w.heap.size w w' := by
  have hb := below_box w cmdz.arr 24
  have CK := known_any (h.grow hb) hk
  have hh := find_hasTag its tag
  go_enter Tryd.func34, Tryd.ntmps34
  go_wp2_with fail
  refine CK.mono ?_
  rintro e w1 ⟨rfl, hB1⟩
  have hBw := hb.trans (hB1.mono hb.size)
  have e0 : w1.heap[w.heap.size]? = some (.cells cmdz.arr 24 (0, 0)) := (hB1.block w.heap.size (by simp)).trans (heap_alloc_new w _)
  have HE := Lib.hid e0
  have hs1 : w.heap.size < w1.heap.size := by have := hB1.size; simp at this; omega
  have h1 := h.grow hBw
  cases hf : its.find? (fun x => x.1.tag == tag) with
  | none =>
    have HK : Hid (knownE its tag = 9) := by show knownE its tag = 9; rw [knownE, ← hh, hf]; rfl
    have HG : Hid (∀ w', GetPost w its tag (.returned (.tuple #[cmdz.val, .bool false])) w') := fun w' => by unfold GetPost; rw [hf]
    rw [HK.out]
    have z0 : w1.cell? ⟨w.heap.size, 0, none⟩ = some (.int .i64 0) := by rw [World.cell?, e0]; rfl
    have z1 : w1.cell? ⟨w.heap.size, 1, none⟩ = some (.int .i64 0) := by rw [World.cell?, e0]; rfl
    have z2 : w1.cell? ⟨w.heap.size, 2, none⟩ = some (.int .i64 0) := by rw [World.cell?, e0]; rfl
    have z3 : w1.cell? ⟨w.heap.size, 3, none⟩ = some (.bool false) := by rw [World.cell?, e0]; rfl
    have z4 : w1.cell? ⟨w.heap.size, 4, none⟩ = some (.string ⟨#[]⟩) := by rw [World.cell?, e0]; rfl
    have z5 : w1.cell? ⟨w.heap.size, 5, none⟩ = some (.string ⟨#[]⟩) := by rw [World.cell?, e0]; rfl
    have z6 : w1.cell? ⟨w.heap.size, 6, none⟩ = some (.int .i64 0) := by rw [World.cell?, e0]; rfl
    have z7 : w1.cell? ⟨w.heap.size, 7, none⟩ = some (.int .i64 0) := by rw [World.cell?, e0]; rfl
    have z8 : w1.cell? ⟨w.heap.size, 8, none⟩ = some (.slice none 0 0) := by rw [World.cell?, e0]; rfl
    have f1 : ∀ j, w1.frozen? ⟨w.heap.size, j, none⟩ = false := fun j => by simp [World.frozen?, e0]
    clear e0 hb hB1 CK hh hf h h1
    go_wp2_with fail
    refine bodyPost_ret (v := .tuple #[cmdz.val, .bool false]) (result_pair (c := cmdz) rfl rfl (row_of_sets (c := cmdz) HE.out)) rfl ⟨HG.out _, below_sets (c := cmdz) hBw (Nat.le_refl _)⟩
  | some x =>
    have hxm := List.mem_of_find?_eq_some hf
    have hxt : x.1.tag = tag := by have := List.find?_some hf; simpa using this
    have HK : Hid (knownE its tag = 0) := by show knownE its tag = 0; rw [knownE, ← hh, hf]; rfl
    have hl := h1.cm.look1 (t := 65) (e := 24) Tryd.underlying65 (zero24 w1) hk
    rw [← hxt, cmdMap_of h1.nod hxm, hxt] at hl
    simp only [Option.getD_some] at hl
    have q1 := h1.q1
    have CD := dup_any x.1 w1 (h1.ok x hxm).1
    have HF := Lib.hid hf
    rw [HK.out]
    clear e0 hb hB1 CK hh hf h h1 hxt hxm
    go_wp2_with fail
    refine CD.mono ?_
    rintro e w2 ⟨⟨da, dc, rfl, hok, hfr, hth⟩, hB2⟩
    have e2 : w2.heap[w.heap.size]? = some (.cells cmdz.arr 24 (0, 0)) := (hB2.block w.heap.size hs1).trans HE.out
    have HE2 := Lib.hid e2
    have hBx := hBw.trans (hB2.mono hBw.size)
    have z0 : w2.cell? ⟨w.heap.size, 0, none⟩ = some (.int .i64 0) := by rw [World.cell?, e2]; rfl
    have z1 : w2.cell? ⟨w.heap.size, 1, none⟩ = some (.int .i64 0) := by rw [World.cell?, e2]; rfl
    have z2 : w2.cell? ⟨w.heap.size, 2, none⟩ = some (.int .i64 0) := by rw [World.cell?, e2]; rfl
    have z3 : w2.cell? ⟨w.heap.size, 3, none⟩ = some (.bool false) := by rw [World.cell?, e2]; rfl
    have z4 : w2.cell? ⟨w.heap.size, 4, none⟩ = some (.string ⟨#[]⟩) := by rw [World.cell?, e2]; rfl
    have z5 : w2.cell? ⟨w.heap.size, 5, none⟩ = some (.string ⟨#[]⟩) := by rw [World.cell?, e2]; rfl
    have z6 : w2.cell? ⟨w.heap.size, 6, none⟩ = some (.int .i64 0) := by rw [World.cell?, e2]; rfl
    have z7 : w2.cell? ⟨w.heap.size, 7, none⟩ = some (.int .i64 0) := by rw [World.cell?, e2]; rfl
    have z8 : w2.cell? ⟨w.heap.size, 8, none⟩ = some (.slice none 0 0) := by rw [World.cell?, e2]; rfl
    have f1 : ∀ j, w2.frozen? ⟨w.heap.size, j, none⟩ = false := fun j => by simp [World.frozen?, e2]
    have HOK := Lib.hid hok
    have HFR := Lib.hid hfr
    have HTH := Lib.hid hth
    clear e2 CD hl q1 hok hfr hB2 hth
    go_wp2_with fail
    refine bodyPost_ret (v := .tuple #[(x.1.re da dc).val, .bool true]) (result_pair (c := x.1.re da dc) rfl rfl (row_of_sets (c := x.1.re da dc) HE2.out)) rfl ⟨?_, below_sets (c := x.1.re da dc) hBx (Nat.le_refl _)⟩
    unfold GetPost
    rw [HF.out]
    exact ⟨da, dc, rfl, ⟨dat_sets (c := x.1.re da dc) HOK.out.dat (fun b o e => by have := HFR.out b o e; omega), HOK.out.len, HOK.out.vs, HOK.out.os⟩, fun b o e => (by have := HFR.out b o e; omega), ((((((((HTH.out.setCell _ _).setCell _ _).setCell _ _).setCell _ _).setCell _ _).setCell _ _).setCell _ _).setCell _ _).setCell _ _⟩
end Go.Proofs.YtfbafjlhdbjgoaaDoor
