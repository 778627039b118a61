/- Tags, Started; the closures. -/
import Derived.Test.YtfbafjlhdbjgoaaDoorQ3
namespace Go.Proofs.YtfbafjlhdbjgoaaDoor
set_option linter.unusedVariables false
set_option linter.unusedSimpArgs false
open Go.RowKit Go.Sort
set_option maxRecDepth 100000

def stB (its : List QItem) (k : Int) : Bool := its.any fun x => x.1.tag == k && x.2
theorem stMap_get (its : List QItem) (k : Int) : (stMap its k).getD (.bool false) = .bool (stB its k) := by
  have h : (its.find? fun x => x.1.tag == k && x.2).isSome = stB its k := by
    unfold stB
    rw [Bool.eq_iff_iff, List.find?_isSome, List.any_eq_true]
  unfold stMap
  cases hf : its.find? (fun x => x.1.tag == k && x.2) with
  | none => rw [hf] at h; rw [← h]; rfl
  | some x => rw [hf] at h; rw [← h]; rfl
theorem tag_mem {its : List QItem} {i : Nat} {x : Int} (h : (tagsOf its)[i]? = some x) : ∃ y, its[i]? = some y ∧ y.1.tag = x ∧ y ∈ its := by
  unfold tagsOf at h
  rw [List.getElem?_map, Option.map_eq_some_iff] at h
  obtain ⟨y, hy, e⟩ := h
  exact ⟨y, hy, e, List.mem_of_getElem? hy⟩
/-- The command of a tag. -/
theorem nodup_inj {its : List QItem} (h : (tagsOf its).Nodup) {x y : QItem} (hx : x ∈ its) (hy : y ∈ its) (e : x.1.tag = y.1.tag) : x = y := by
  induction its with
  | nil => cases hx
  | cons a l ih =>
    unfold tagsOf at h
    rw [List.map_cons, List.nodup_cons] at h
    rcases List.mem_cons.1 hx with rfl | hx' <;> rcases List.mem_cons.1 hy with rfl | hy'
    · rfl
    · exact absurd (List.mem_map.2 ⟨y, hy', e.symm⟩) h.1
    · exact absurd (List.mem_map.2 ⟨x, hx', e⟩) h.1
    · exact ih h.2 hx' hy'
theorem stB_of {its : List QItem} (h : (tagsOf its).Nodup) {x : QItem} (hx : x ∈ its) : stB its x.1.tag = x.2 := by
  unfold stB
  cases hb : x.2 with
  | true => exact List.any_eq_true.2 ⟨x, hx, by simp [hb]⟩
  | false =>
    rw [List.any_eq_false]
    intro y hy
    by_cases e : y.1.tag = x.1.tag
    · have := nodup_inj h hy hx e
      subst this
      simp [hb]
    · simp [e]
theorem cmdMap_of {its : List QItem} (h : (tagsOf its).Nodup) {x : QItem} (hx : x ∈ its) : cmdMap its x.1.tag = some x.1.val := by
  unfold cmdMap
  cases hf : its.find? (fun y => y.1.tag == x.1.tag) with
  | none => exact absurd (List.find?_eq_none.1 hf x hx) (by simp)
  | some y =>
    have h1 := List.find?_some hf
    have h2 := List.mem_of_find?_eq_some hf
    have := nodup_inj h h2 hx (by simpa using h1)
    subst this
    rfl

theorem closure59 (i : Nat) (x : Int) (w : World) : Calls Tryd.prog 59 #[.int .i64 (i : Nat), .int .i64 x] w fun e w' => e = .returned (.bool true) ∧ RowKit.Below w.heap.size w w' := by
  go_enter Tryd.func59, Tryd.ntmps59
  go_wp2
  go_ret
  exact ⟨rfl, RowKit.Below.refl _ _⟩
theorem closure60 {w : World} {q m1 m2 n : Nat} {tv : Value} {its : List QItem} (h : QAt w q m1 m2 n tv its) {g : Nat} (hg : w.cell? ⟨g, 0, none⟩ = some (.pointer (some ⟨q, 0, none⟩))) (i : Nat) {x : Int} (hk : (Lit.int .i64 x).wf = true) :
    Calls Tryd.prog 60 #[.int .i64 (i : Nat), .int .i64 x, .pointer (some ⟨g, 0, none⟩)] w fun e w' => e = .returned (.bool (stB its x)) ∧ RowKit.Below w.heap.size w w' := by
  have q2 := h.q2
  have hl := h.st.look1 (t := 66) (e := 4) Tryd.underlying66 (zero4 w) hk
  rw [stMap_get] at hl
  clear h
  go_enter Tryd.func60, Tryd.ntmps60
  go_wp2
  go_ret
  exact ⟨rfl, RowKit.Below.refl _ _⟩

/-- The tags as a slice of numbers. -/
theorem QAt.ints {w : World} {q m1 m2 n : Nat} {tv : Value} {its : List QItem} (h : QAt w q m1 m2 n tv its) : ∃ a c, tv = .slice a (tagsOf its).length c ∧ Ints w a (tagsOf its) := ownsInts h.tags
theorem filtTo_all (p : Nat → Int → Bool) (xs : List Int) : ∀ k, k ≤ xs.length → (∀ i x, xs[i]? = some x → p i x = true) → filtTo p xs k = xs.take k
  | 0, _, _ => rfl
  | k + 1, hk, h => by
    obtain ⟨x, hx⟩ : ∃ x, xs[k]? = some x := ⟨_, List.getElem?_eq_getElem (by omega)⟩
    rw [filtTo_yes hx (h k x hx), filtTo_all p xs k (by omega) h, List.take_add_one, hx]
    rfl
/-- What a test keeps of a queue's tags. -/
theorem filtTo_items (p : Nat → Int → Bool) (r : Nat → QItem → Bool) (its : List QItem) (h : ∀ i y, its[i]? = some y → p i y.1.tag = r i y) : ∀ k, k ≤ its.length → filtTo p (tagsOf its) k = (((its.take k).zipIdx).filter fun z => r z.2 z.1).map fun z => z.1.1.tag
  | 0, _ => by simp [filtTo]
  | k + 1, hk => by
    obtain ⟨y, hy⟩ : ∃ y, its[k]? = some y := ⟨_, List.getElem?_eq_getElem (by omega)⟩
    have hx : (tagsOf its)[k]? = some y.1.tag := by unfold tagsOf; rw [List.getElem?_map, hy]; rfl
    have ih := filtTo_items p r its h k (by omega)
    have hl : (its.take k).length = k := by rw [List.length_take]; omega
    rw [List.take_add_one, hy, List.zipIdx_append, List.filter_append, List.map_append, ← ih, hl]
    cases hr : r k y with
    | true => rw [filtTo_yes hx (by rw [h k y hy]; exact hr)]; simp [hr]
    | false => rw [filtTo_no hx (by rw [h k y hy]; exact hr)]; simp [hr]
def startedOf (its : List QItem) : List Int := (its.filter (·.2)).map fun x => x.1.tag
theorem filtTo_started (its : List QItem) (h : (tagsOf its).Nodup) : ∀ k, k ≤ its.length → filtTo (fun _ x => stB its x) (tagsOf its) k = startedOf (its.take k)
  | 0, _ => by simp [filtTo, startedOf]
  | k + 1, hk => by
    obtain ⟨y, hy⟩ : ∃ y, its[k]? = some y := ⟨_, List.getElem?_eq_getElem (by omega)⟩
    have hx : (tagsOf its)[k]? = some y.1.tag := by unfold tagsOf; rw [List.getElem?_map, hy]; rfl
    have ih := filtTo_started its h k (by omega)
    have hs := stB_of h (List.mem_of_getElem? hy)
    unfold startedOf at *
    rw [List.take_add_one, hy, List.filter_append, List.map_append, ← ih]
    cases hr : y.2 with
    | true => rw [filtTo_yes hx (by rw [hs]; exact hr)]; simp [hr]
    | false => rw [filtTo_no hx (by rw [hs]; exact hr)]; simp [hr]

set_option maxHeartbeats 1000000 in
theorem tags_any {w : World} {q m1 m2 n : Nat} {tv : Value} {its : List QItem} (h : QAt w q m1 m2 n tv its) (hm : (its.length : Int) ≤ 1000000) :
    Calls Tryd.prog 31 #[.pointer (some ⟨q, 0, none⟩)] w fun e w' => RetInts (tagsOf its) w e w' := by
  obtain ⟨a, c, rfl, hI⟩ := h.ints
  have hl : (tagsOf its).length = its.length := by simp [tagsOf]
  have CF := filter59 (fun _ _ => true) q a c (tagsOf its) w h.q0 hI (by omega) (fun W i x _ _ => closure59 i x W)
  rw [filtTo_all _ _ _ (Nat.le_refl _) (fun _ _ _ => rfl), List.take_length] at CF
  have HC := Lib.hid CF
  clear h CF hI hl
  go_enter Tryd.func31, Tryd.ntmps31
  go_wp2_with fail
  refine HC.out.mono ?_
  rintro e w1 ⟨a', c', rfl, hI', hB⟩
  go_wp2_with fail
  go_ret
  exact ⟨a', c', rfl, hI', hB⟩

set_option maxHeartbeats 1000000 in
theorem started_any {w : World} {q m1 m2 n : Nat} {tv : Value} {its : List QItem} (h : QAt w q m1 m2 n tv its) (hm : (its.length : Int) ≤ 1000000) :
    Calls Tryd.prog 32 #[.pointer (some ⟨q, 0, none⟩)] w fun e w' => RetInts (startedOf its) w e w' := by
  have hmf : ∀ (fn : Fn) (first cap : Array Value) (w : World), (Instr.makeFunc fn first cap).run Tryd.prog w = .ok (.func fn first cap) w := fun _ _ _ _ => rfl
  have hl : (tagsOf its).length = its.length := by simp [tagsOf]
  have hw1 : RowKit.Below w.heap.size w (w.alloc (.cells #[.pointer (some ⟨q, 0, none⟩)] 37)) := below_box _ _ _
  have hg : (w.alloc (.cells #[.pointer (some ⟨q, 0, none⟩)] 37)).cell? ⟨w.heap.size, 0, none⟩ = some (.pointer (some ⟨q, 0, none⟩)) := cell_new_one w _ 37 0 _ rfl
  generalize hw0 : w.alloc (.cells #[.pointer (some ⟨q, 0, none⟩)] 37) = w0 at hw1 hg
  have h0 := h.grow hw1
  obtain ⟨a, c, hte, hI⟩ := h0.ints
  have CF := filter60 ⟨w.heap.size, 0, none⟩ (fun _ x => stB its x) q a c (tagsOf its) w0 (by rw [h0.q0, hte]) hI (by omega) (fun W i x hW hx => by
    obtain ⟨y, hy, rfl, hm⟩ := tag_mem hx
    exact closure60 (h0.grow hW) (cell_keep hW hg) i (h0.ok y hm).2)
  rw [hl, filtTo_started its h.nod _ (Nat.le_refl _), List.take_length] at CF
  rw [← hw0] at CF hw1
  have HC := Lib.hid CF
  have HW := Lib.hid hw1
  clear h h0 CF hI hg hw0 hte hw1 hl
  go_enter Tryd.func32, Tryd.ntmps32
  go_wp2_with fail
  refine HC.out.mono ?_
  rintro e w1 ⟨a', c', rfl, hI', hB⟩
  go_wp2_with fail
  go_ret
  exact ⟨a', c', rfl, hI', HW.out.trans (hB.mono HW.out.size)⟩
end Go.Proofs.YtfbafjlhdbjgoaaDoor
