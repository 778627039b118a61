/- Valid. -/
import Derived.Test.YtfbafjlhdbjgoaaDoorA5
import Derived.Test.YtfbafjlhdbjgoaaDoorA2
import Derived.BigRegion
namespace Go.Proofs.YtfbafjlhdbjgoaaDoor
set_option linter.unusedVariables false
set_option linter.unusedSimpArgs false
open Go.RowKit

def onlyC (c : Cmd) : Cmd := { tag := c.tag, kind := c.kind, ord := c.ord, force := false, vol := ⟨#[]⟩, oth := ⟨#[]⟩, pos := 0, len := 0, da := none, dc := 0, bs := [] }

set_option maxHeartbeats 1000000 in
set_option maxRecDepth 100000 in
theorem only_any (c : Cmd) (w : World) :
    Calls Tryd.prog 80 #[c.val] w fun e w' => e = .returned (.agg #[.int .i64 c.tag, .int .i64 c.kind, .int .i64 c.ord, .bool false, .string ⟨#[]⟩, .string ⟨#[]⟩, .int .i64 0, .int .i64 0, .slice none 0 0]) ∧ Below w.heap.size w w' := by
  go_enter Tryd.func80, Tryd.ntmps80
  go_wp2
  exact bodyPost_ret (v := .agg #[.int .i64 c.tag, .int .i64 c.kind, .int .i64 c.ord, .bool false, .string ⟨#[]⟩, .string ⟨#[]⟩, .int .i64 0, .int .i64 0, .slice none 0 0]) (by simp [results, Tryd.results80, go_sem]) rfl ⟨rfl, below_two _ _ _ _ _⟩

theorem box1 {w w1 : World} {c : Cmd} {t : TypeId} (hb : Below (w.heap.size + 1) (w.alloc (.cells c.arr t)) w1) : Below w.heap.size w w1 ∧ w.heap.size < w1.heap.size ∧ Box w1 w.heap.size c := by
  have hs : (w.alloc (.cells c.arr t)).heap.size = w.heap.size + 1 := by simp
  refine ⟨(below_box w _ t).trans (hb.mono (by omega)), by have := hb.size; omega, ?_⟩
  refine (Box.of_heap (t := t) (f := (0, 0)) ?_).below hb (by omega)
  exact heap_alloc_new w _

/-- Two boxes, the second newer; behind both: what a call leaves. -/
theorem box_next {w1 w2 : World} {g : Nat} {c u : Cmd} {t : TypeId} (hg : g < w1.heap.size) (hc : Box w1 g c) (hb : Below (w1.heap.size + 1) (w1.alloc (.cells u.arr t)) w2) :
    Below w1.heap.size w1 w2 ∧ g < w2.heap.size ∧ w1.heap.size < w2.heap.size ∧ Box w2 g c ∧ Box w2 w1.heap.size u ∧ (∀ o, w2.frozen? ⟨w1.heap.size, o, none⟩ = false) := by
  have hs : (w1.alloc (.cells u.arr t)).heap.size = w1.heap.size + 1 := by simp
  have h0 : Below w1.heap.size w1 w2 := (below_box w1 _ t).trans (hb.mono (by omega))
  refine ⟨h0, by have := hb.size; omega, by have := hb.size; omega, hc.below h0 hg, ?_, fun o => ?_⟩
  · refine (Box.of_heap (t := t) (f := (0, 0)) ?_).below hb (by omega)
    exact heap_alloc_new w1 _
  · rw [hb.frozen (p := ⟨w1.heap.size, o, none⟩) (by simp)]
    have := heap_alloc_new w1 (.cells u.arr t)
    unfold World.frozen?
    rw [this]
    simp

theorem empty_toList : (⟨#[]⟩ : ByteArray).toList = [] := by rw [ByteArray.toList_eq]
end Go.Proofs.YtfbafjlhdbjgoaaDoor
