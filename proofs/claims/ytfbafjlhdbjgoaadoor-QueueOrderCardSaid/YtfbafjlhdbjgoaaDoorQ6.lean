/- Eligible of the queue, whole. -/
import Derived.Test.YtfbafjlhdbjgoaaDoorQ5
namespace Go.Proofs.YtfbafjlhdbjgoaaDoor
set_option linter.unusedVariables false
set_option linter.unusedSimpArgs false
open Go.RowKit Go.Sort
set_option maxRecDepth 100000

def eligIt (its : List QItem) (i : Nat) (y : QItem) : Bool := !y.2 && !((its.take i).any fun x => beforeB x.1 y.1)
def eligI (its : List QItem) (i : Nat) : Bool := match its[i]? with
  | some y => eligIt its i y
  | none => false
theorem eligI_some {its : List QItem} {i : Nat} {y : QItem} (h : its[i]? = some y) : eligI its i = eligIt its i y := by simp [eligI, h]
def befTag (its : List QItem) (y : QItem) (z : Int) : Bool := match its.find? (fun x => x.1.tag == z) with
  | some x => beforeB x.1 y.1
  | none => false
theorem find_of {its : List QItem} (h : (tagsOf its).Nodup) {x : QItem} (hx : x ∈ its) : its.find? (fun y => y.1.tag == x.1.tag) = some x := by
  cases hf : its.find? (fun y => y.1.tag == x.1.tag) with
  | none => exact absurd (List.find?_eq_none.1 hf x hx) (by simp)
  | some y =>
    have h1 := List.find?_some hf
    have h2 := List.mem_of_find?_eq_some hf
    rw [nodup_inj h h2 hx (by simpa using h1)]
theorem befTag_of {its : List QItem} (h : (tagsOf its).Nodup) {x y : QItem} (hx : x ∈ its) : befTag its y x.1.tag = beforeB x.1 y.1 := by
  unfold befTag
  rw [find_of h hx]
theorem any_befTag {its : List QItem} (h : (tagsOf its).Nodup) (y : QItem) (i : Nat) : ((tagsOf its).take i).any (befTag its y) = (its.take i).any fun x => beforeB x.1 y.1 := by
  unfold tagsOf
  rw [← List.map_take, List.any_map, Bool.eq_iff_iff, List.any_eq_true, List.any_eq_true]
  constructor
  · rintro ⟨x, hx, hb⟩
    exact ⟨x, hx, by rw [← befTag_of h (List.mem_of_mem_take hx)]; exact hb⟩
  · rintro ⟨x, hx, hb⟩
    exact ⟨x, hx, by show befTag its y x.1.tag = true; rw [befTag_of h (List.mem_of_mem_take hx)]; exact hb⟩

set_option maxHeartbeats 2000000 in
theorem closure61 {w : World} {q m1 m2 n : Nat} {tv : Value} {its : List QItem} (h : QAt w q m1 m2 n tv its) {g : Nat} (hg : w.cell? ⟨g, 0, none⟩ = some (.pointer (some ⟨q, 0, none⟩))) {i : Nat} {y : QItem} (hy : its[i]? = some y) (hm : (its.length : Int) ≤ 1000000) :
    Calls Tryd.prog 61 #[.int .i64 (i : Nat), .int .i64 y.1.tag, .pointer (some ⟨g, 0, none⟩)] w fun e w' => e = .returned (.bool (eligIt its i y)) ∧ RowKit.Below w.heap.size w w' := by
  have hmf : ∀ (fn : Fn) (first cap : Array Value) (w : World), (Instr.makeFunc fn first cap).run Tryd.prog w = .ok (.func fn first cap) w := fun _ _ _ _ => rfl
  have hym := List.mem_of_getElem? hy
  have hil : i < its.length := (List.getElem?_eq_some_iff.1 hy).1
  have hwf := (h.ok y hym).2
  have hst := stB_of h.nod hym
  have hbx := below_box w #[.int .i64 y.1.tag] 3
  have h1 := h.grow hbx
  have hg1 := cell_keep hbx hg
  have ht1 : (w.alloc (.cells #[.int .i64 y.1.tag] 3)).cell? ⟨w.heap.size, 0, none⟩ = some (.int .i64 y.1.tag) := cell_new_one w _ 3 0 _ rfl
  have HMk : Hid (∀ W, RowKit.Below (w.alloc (.cells #[.int .i64 y.1.tag] 3)).heap.size (w.alloc (.cells #[.int .i64 y.1.tag] 3)) W → QAt W q m1 m2 n tv its ∧ W.cell? ⟨g, 0, none⟩ = some (.pointer (some ⟨q, 0, none⟩)) ∧ W.cell? ⟨w.heap.size, 0, none⟩ = some (.int .i64 y.1.tag)) := fun W hW => ⟨h1.grow hW, cell_keep hW hg1, cell_keep hW ht1⟩
  have g0 := cell_regrown hg1
  have g1 := cell_regrown ht1
  have g2 := cell_regrown h1.q2
  have ls : ∀ d os, (Instr.lookup 66 (.map (some m2)) (.int .i64 y.1.tag) false).run Tryd.prog (grow (redrawn (w.alloc (.cells #[.int .i64 y.1.tag] 3)) d) os) = .ok (.bool y.2) (grow (redrawn (w.alloc (.cells #[.int .i64 y.1.tag] 3)) d) os) := fun d os => by
    have := (h1.grow (below_regrown _ d os)).st.look1 (t := 66) (e := 4) Tryd.underlying66 (zero4 _) hwf
    rwa [stMap_get, hst] at this
  obtain ⟨hl0, htv⟩ := h.tags
  have htl : (tagsOf its).length = its.length := by simp [tagsOf]
  obtain ⟨gb, cap, cur, rfl, _, _, hcap, _⟩ := htv.resolve_left (fun hh => by omega)
  have hic : (i : Int) ≤ (cap : Int) := by omega
  have HQ := Lib.hid (And.intro h.nod hym)
  have HY := Lib.hid hy
  have HBX := Lib.hid hbx
  clear h h1 hg hg1 ht1 hst hwf hym hy hbx htl hl0 htv
  go_enter Tryd.func61, Tryd.ntmps61
  go_wp2_with fail
  refine wp_region_quiet_below (by kernel_rfl) (by kernel_rfl) ?_
  repeat (go_big_quiet_step (fail))
  refine wpQuiet_nil ?_
  intro _ hw'
  obtain ⟨⟨d, os'⟩, hw''⟩ := hw'
  subst hw''
  have hB2 := below_regrown (w.alloc (.cells #[.int .i64 y.1.tag] 3)) d os'
  generalize grow (redrawn (w.alloc (.cells #[.int .i64 y.1.tag] 3)) d) os' = w2 at hB2 ⊢
  have hBw : RowKit.Below w.heap.size w w2 := HBX.out.trans (hB2.mono HBX.out.size)
  obtain ⟨h2, hg2, ht2⟩ := HMk.out w2 hB2
  have hq0 := h2.q0
  clear g0 g1 g2 ls
  cases hy2 : y.2 with
  | true =>
    have HE : Hid (eligIt its i y = false) := by show eligIt its i y = false; simp [eligIt, hy2]
    clear hy2 h2
    go_wp2
    go_ret
    exact ⟨ret_bool HE.out.symm, hBw⟩
  | false =>
    have HE : Hid ((!((tagsOf its).take i).any (befTag its y)) = eligIt its i y) := by
      show (!((tagsOf its).take i).any (befTag its y)) = eligIt its i y
      rw [any_befTag HQ.out.1, eligIt, hy2]; simp
    have CC : ∀ c', Calls Tryd.prog 62 #[.slice (some ⟨gb, 0, none⟩) i c', .func (.func 63) #[] #[.pointer (some ⟨g, 0, none⟩), .pointer (some ⟨w.heap.size, 0, none⟩)]] w2 fun e w' => e = .returned (.bool (((tagsOf its).take i).any (befTag its y))) ∧ RowKit.Below w2.heap.size w2 w' := fun c' => by
      obtain ⟨a', cc, hv, hI⟩ := h2.ints
      have ha : a' = some ⟨gb, 0, none⟩ := by injection hv with h1 _ _; exact h1.symm
      subst ha
      have hlen : ((tagsOf its).take i).length = i := by rw [List.length_take]; simp [tagsOf]; omega
      have := containsF_any (some ⟨gb, 0, none⟩) c' g w.heap.size (befTag its y) ((tagsOf its).take i) w2 (fun hp => by
        obtain ⟨b, o, e, hc⟩ := hI (by simp [tagsOf]; omega)
        exact ⟨b, o, e, fun j x hx => hc j x (by
          rw [List.getElem?_take] at hx
          split at hx
          · exact hx
          · cases hx)⟩) (by omega) (fun W z hW hz => by
        obtain ⟨j, hj⟩ := List.mem_iff_getElem?.1 (List.mem_of_mem_take hz)
        obtain ⟨x, _, rfl, hx⟩ := tag_mem hj
        have := closure63 (h2.grow hW) (g := g) (gt := w.heap.size) x y (cell_keep hW hg2) (cell_keep hW ht2) hx HQ.out.2
        rwa [← befTag_of HQ.out.1 hx] at this)
      rwa [hlen] at this
    have HCC := Lib.hid CC
    clear hy2 h2 CC
    go_wp2_with fail
    refine (HCC.out _).mono ?_
    rintro e w3 ⟨rfl, hB3⟩
    go_wp2_with fail
    go_ret
    exact ⟨ret_bool HE.out, hBw.trans (hB3.mono hBw.size)⟩

def eligTags (its : List QItem) : List Int := filtTo (fun i _ => eligI its i) (tagsOf its) its.length
set_option maxHeartbeats 1000000 in
theorem eligible_any {w : World} {q m1 m2 n : Nat} {tv : Value} {its : List QItem} (h : QAt w q m1 m2 n tv its) (hm : (its.length : Int) ≤ 1000000) :
    Calls Tryd.prog 33 #[.pointer (some ⟨q, 0, none⟩)] w fun e w' => RetInts (eligTags its) w e w' := by
  have hmf : ∀ (fn : Fn) (first cap : Array Value) (w : World), (Instr.makeFunc fn first cap).run Tryd.prog w = .ok (.func fn first cap) w := fun _ _ _ _ => rfl
  have hl : (tagsOf its).length = its.length := by simp [tagsOf]
  have hw1 : RowKit.Below w.heap.size w (w.alloc (.cells #[.pointer (some ⟨q, 0, none⟩)] 37)) := below_box _ _ _
  have hg : (w.alloc (.cells #[.pointer (some ⟨q, 0, none⟩)] 37)).cell? ⟨w.heap.size, 0, none⟩ = some (.pointer (some ⟨q, 0, none⟩)) := cell_new_one w _ 37 0 _ rfl
  generalize hw0 : w.alloc (.cells #[.pointer (some ⟨q, 0, none⟩)] 37) = w0 at hw1 hg
  have h0 := h.grow hw1
  obtain ⟨a, c, hte, hI⟩ := h0.ints
  have CF := filter61 ⟨w.heap.size, 0, none⟩ (fun i _ => eligI its i) q a c (tagsOf its) w0 (by rw [h0.q0, hte]) hI (by omega) (fun W i x hW hx => by
    obtain ⟨y, hy, rfl, hm'⟩ := tag_mem hx
    rw [eligI_some hy]
    exact closure61 (h0.grow hW) (cell_keep hW hg) hy hm)
  rw [hl] at CF
  rw [← hw0] at CF hw1
  have HC := Lib.hid CF
  have HW := Lib.hid hw1
  clear h h0 CF hI hg hw0 hte hw1 hl
  go_enter Tryd.func33, Tryd.ntmps33
  go_wp2_with fail
  refine HC.out.mono ?_
  rintro e w1 ⟨a', c', rfl, hI', hB⟩
  go_wp2_with fail
  go_ret
  exact ⟨a', c', rfl, hI', HW.out.trans (hB.mono HW.out.size)⟩
end Go.Proofs.YtfbafjlhdbjgoaaDoor
