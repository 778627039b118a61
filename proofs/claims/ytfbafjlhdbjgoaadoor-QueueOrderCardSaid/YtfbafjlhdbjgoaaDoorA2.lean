/- same. -/
import Derived.Test.YtfbafjlhdbjgoaaDoorA1
import Derived.BigQuiet
import Derived.Deep.QuietTactic
import Derived.WalkSmall
namespace Go.Proofs.YtfbafjlhdbjgoaaDoor
set_option linter.unusedVariables false
set_option linter.unusedSimpArgs false
open Go.RowKit
@[reducible] def B8.val (x : B8) : Value := .agg #[.int .u8 x.x0, .int .u8 x.x1, .int .u8 x.x2, .int .u8 x.x3, .int .u8 x.x4, .int .u8 x.x5, .int .u8 x.x6, .int .u8 x.x7]
theorem B8.beq_eq (x y : B8) : (x == y) = (x.x0 == y.x0 && x.x1 == y.x1 && x.x2 == y.x2 && x.x3 == y.x3 && x.x4 == y.x4 && x.x5 == y.x5 && x.x6 == y.x6 && x.x7 == y.x7) := by
  obtain ⟨a0, a1, a2, a3, a4, a5, a6, a7⟩ := x
  obtain ⟨b0, b1, b2, b3, b4, b5, b6, b7⟩ := y
  rw [Bool.eq_iff_iff]
  simp [B8.mk.injEq, and_assoc]
theorem run_eql_b8 (W : World) (d : Nat) (x y : B8) : (Op.equalIn (d + 2) 60 x.val y.val).run Tryd.prog W = .ok (x == y) W := by
  have u60 : Tryd.prog.underlying 60 = some (.array 8 5) := by kernel_rfl
  have u5 : Tryd.prog.underlying 5 = some (.int .u8) := Tryd.underlying5
  have hs : ∀ w, (sizeOf 5).run Tryd.prog w = .ok 1 w := fun w => by kernel_rfl
  have hp : ∀ (z : B8) (w : World), (part 5 z.val.cells 0).run Tryd.prog w = .ok (.int .u8 z.x0) w ∧ (part 5 z.val.cells 1).run Tryd.prog w = .ok (.int .u8 z.x1) w ∧ (part 5 z.val.cells 2).run Tryd.prog w = .ok (.int .u8 z.x2) w ∧ (part 5 z.val.cells 3).run Tryd.prog w = .ok (.int .u8 z.x3) w ∧
      (part 5 z.val.cells 4).run Tryd.prog w = .ok (.int .u8 z.x4) w ∧ (part 5 z.val.cells 5).run Tryd.prog w = .ok (.int .u8 z.x5) w ∧ (part 5 z.val.cells 6).run Tryd.prog w = .ok (.int .u8 z.x6) w ∧ (part 5 z.val.cells 7).run Tryd.prog w = .ok (.int .u8 z.x7) w := by
    intro z w
    simp only [Value.cells]
    refine ⟨?_, ?_, ?_, ?_, ?_, ?_, ?_, ?_⟩ <;> go_simp
  simp only [Value.cells] at hp
  have he : ∀ (a b : Int) (w : World), (Op.equalIn (d + 1) 5 (.int .u8 a) (.int .u8 b)).run Tryd.prog w = .ok (a == b) w := fun a b w => run_equalIn_int w d 5 .u8 .u8 a b u5
  rw [B8.beq_eq]
  unfold Op.equalIn
  simp only [Sem.run_bind, run_underlying u60, Result.andThen_ok, B8.val, hs, Std.Legacy.Range.forIn_eq_forIn_range', Std.Legacy.Range.size, List.range', List.forIn_cons, List.forIn_nil, Nat.sub_zero, Nat.add_sub_cancel, Nat.div_one, Nat.mul_one, Nat.zero_add, Nat.reduceAdd]
  simp only [hp, he, Result.andThen_ok]
  cases h0 : (x.x0 == y.x0)
  · simp [Sem.run_pure]
  cases h1 : (x.x1 == y.x1)
  · simp [Sem.run_pure, hp, he, h1]
  cases h2 : (x.x2 == y.x2)
  · simp [Sem.run_pure, hp, he, h1, h2]
  cases h3 : (x.x3 == y.x3)
  · simp [Sem.run_pure, hp, he, h1, h2, h3]
  cases h4 : (x.x4 == y.x4)
  · simp [Sem.run_pure, hp, he, h1, h2, h3, h4]
  cases h5 : (x.x5 == y.x5)
  · simp [Sem.run_pure, hp, he, h1, h2, h3, h4, h5]
  cases h6 : (x.x6 == y.x6)
  · simp [Sem.run_pure, hp, he, h1, h2, h3, h4, h5, h6]
  cases h7 : (x.x7 == y.x7)
  · simp [Sem.run_pure, hp, he, h1, h2, h3, h4, h5, h6, h7]
  simp [Sem.run_pure, hp, he, h1, h2, h3, h4, h5, h6, h7]
theorem run_neq_b8 (W : World) (x y : B8) : (binOp .neq 60 x.val y.val).run Tryd.prog W = .ok (.bool (x != y)) W := by
  rw [run_neq_struct, show (10000 : Nat) = 9998 + 2 from rfl, run_eql_b8]; rfl
theorem guard_b8 : Tryd.prog.eqGuardType Tryd.prog.depth 60 = false := by kernel_rfl

/-- In block g lie the nine cells of c. -/
def Box (w : World) (g : Nat) (c : Cmd) : Prop :=
  w.cell? ⟨g, 0, none⟩ = some (.int .i64 c.tag) ∧ w.cell? ⟨g, 1, none⟩ = some (.int .i64 c.kind) ∧ w.cell? ⟨g, 2, none⟩ = some (.int .i64 c.ord) ∧ w.cell? ⟨g, 3, none⟩ = some (.bool c.force) ∧ w.cell? ⟨g, 4, none⟩ = some (.string c.vol) ∧
  w.cell? ⟨g, 5, none⟩ = some (.string c.oth) ∧ w.cell? ⟨g, 6, none⟩ = some (.int .i64 c.pos) ∧ w.cell? ⟨g, 7, none⟩ = some (.int .i64 c.len) ∧ w.cell? ⟨g, 8, none⟩ = some (.slice c.da c.bs.length c.dc)

theorem Box.of_heap {w : World} {g : Nat} {c : Cmd} {t : TypeId} {f : Nat × Nat} (h : w.heap[g]? = some (.cells c.arr t f)) : Box w g c :=
  ⟨cell_of_row w g 0 _ t f h, cell_of_row w g 1 _ t f h, cell_of_row w g 2 _ t f h, cell_of_row w g 3 _ t f h, cell_of_row w g 4 _ t f h, cell_of_row w g 5 _ t f h, cell_of_row w g 6 _ t f h, cell_of_row w g 7 _ t f h, cell_of_row w g 8 _ t f h⟩
theorem Box.below {w w' : World} {B g : Nat} {c : Cmd} (h : Box w g c) (hb : Below B w w') (hg : g < B) : Box w' g c := by
  have k : ∀ (o : Nat) (v : Value), w.cell? ⟨g, o, none⟩ = some v → w'.cell? ⟨g, o, none⟩ = some v := fun o v h => (hb.cell (p := ⟨g, o, none⟩) hg).trans h
  obtain ⟨h0, h1, h2, h3, h4, h5, h6, h7, h8⟩ := h
  exact ⟨k _ _ h0, k _ _ h1, k _ _ h2, k _ _ h3, k _ _ h4, k _ _ h5, k _ _ h6, k _ _ h7, k _ _ h8⟩

/-- Two commands are boxed; what lies behind. -/
theorem box2 {w wr : World} {a b : Cmd} {t u : TypeId} (hb : Below (w.heap.size + 2) ((w.alloc (.cells a.arr t)).alloc (.cells b.arr u)) wr) :
    Below w.heap.size w wr ∧ w.heap.size < wr.heap.size ∧ w.heap.size + 1 < wr.heap.size ∧ Box wr w.heap.size a ∧ Box wr (w.heap.size + 1) b := by
  have h0 : Below w.heap.size w ((w.alloc (.cells a.arr t)).alloc (.cells b.arr u)) := ((Below.refl _ _).alloc (Nat.le_refl _) _).alloc (by simp) _
  have hs : ((w.alloc (.cells a.arr t)).alloc (.cells b.arr u)).heap.size = w.heap.size + 2 := by simp
  refine ⟨h0.trans (hb.mono (by omega)), by have := hb.size; omega, by have := hb.size; omega, ?_, ?_⟩
  · refine (Box.of_heap (t := t) (f := (0, 0)) ?_).below hb (by omega)
    rw [Below.heap_alloc _ _ _ (by simp)]
    exact heap_alloc_new w _
  · refine (Box.of_heap (t := u) (f := (0, 0)) ?_).below hb (by omega)
    have := heap_alloc_new (w.alloc (.cells a.arr t)) (.cells b.arr u)
    simpa using this

def restB (a b : Cmd) : Bool := a.tag == b.tag && a.kind == b.kind && a.ord == b.ord && a.force == b.force && a.vol.toList == b.vol.toList && a.oth.toList == b.oth.toList && a.pos == b.pos && a.len == b.len

theorem take_succ_eq {α : Type} {xs ys : List α} {k : Nat} {x y : α} (hx : xs[k]? = some x) (hy : ys[k]? = some y) (h : xs.take k = ys.take k) (e : x = y) : xs.take (k + 1) = ys.take (k + 1) := by
  rw [List.take_add_one, List.take_add_one, h, hx, hy, e]

set_option maxHeartbeats 1000000 in
set_option maxRecDepth 100000 in
theorem same_ne (a b : Cmd) (w : World) (h : a.bs.length = b.bs.length) (hpos : 0 < a.bs.length) (hda : Dat w a.da a.bs) (hdb : Dat w b.da b.bs) (hm : (a.bs.length : Int) ≤ 17592186044416) :
  Calls Tryd.prog 83 #[a.val, b.val] w fun e w' => e = .returned (.bool (a.bs == b.bs && restB a b)) ∧ Below w.heap.size w w' := by
  have hl : ((a.bs.length : Int) != b.bs.length) = false := by simp [h]
  have H := Lib.hid h; clear h
  obtain ⟨ab, ao, ea, ca⟩ := hda (by omega)
  obtain ⟨bb, bo, eb, cb⟩ := hdb (by have := H.out; omega)
  have hg := guard_b8
  have hneq := run_neq_b8
  go_enter Tryd.func83, Tryd.ntmps83
  go_wp2
  go_loopw [5, 6, 17] (fun _ _ i wr => ∃ k : Nat, k ≤ a.bs.length ∧ i = .int .i64 k ∧ a.bs.take k = b.bs.take k ∧ Below (w.heap.size + 2) ((w.alloc (.cells a.arr 24)).alloc (.cells b.arr 24)) wr) (fun _ _ i _ => a.bs.length - (intOf i).toNat)
  case atStart => exact ⟨0, Nat.zero_le _, rfl, rfl, by simp only [Cmd.arr, ea, eb]; exact Below.refl _ _⟩
  case round =>
    obtain ⟨k, hk, rfl, htk, hb⟩ := hrel
    have HT := Lib.hid htk; clear htk
    obtain ⟨hbw, hs0, hs1, hba, hbb⟩ := box2 hb
    obtain ⟨p0, p1, p2, p3, p4, p5, p6, p7, p8⟩ := hba
    obtain ⟨q0, q1, q2, q3, q4, q5, q6, q7, q8⟩ := hbb
    by_cases hlt : k < a.bs.length
    · have hlt2 : k < b.bs.length := by have := H.out; omega
      obtain ⟨x, hx⟩ : ∃ x, a.bs[k]? = some x := ⟨_, List.getElem?_eq_getElem hlt⟩
      obtain ⟨y, hy⟩ : ∃ y, b.bs[k]? = some y := ⟨_, List.getElem?_eq_getElem hlt2⟩
      obtain ⟨a0, a1, a2, a3, a4, a5, a6, a7⟩ := (ca k x hx).mono hbw
      obtain ⟨b0, b1, b2, b3, b4, b5, b6, b7⟩ := (cb k y hy).mono hbw
      have hbb : bb < wr.heap.size := block_lt_of_cell b0
      have HX := Lib.hid hx; have HY := Lib.hid hy; clear hx hy
      go_wp2
      go_quiet (fail)
      go_wp2
      · go_ret
        refine ⟨ret_bool ?_, below_drewN (hbw.alloc (Nat.le_of_lt (by omega)) _) _⟩
        have e : ¬ a.bs = b.bs := fun e => by
          have h1 := HX.out; have h2 := HY.out
          rw [e, h2] at h1
          injection h1 with h1
          rename_i hne
          simp [h1] at hne
        simp [e]
      · go_roundw
        case rel => exact ⟨k + 1, by omega, by go_num, take_succ_eq HX.out HY.out HT.out (by rename_i hne; simpa using hne), below_drewN (hb.alloc (by omega) _) _⟩
        case measure => simp [intOf]; omega
    · have hE : Hid (a.bs = b.bs) := by
        have h1 := HT.out
        rw [List.take_of_length_le (by omega), List.take_of_length_le (by have := H.out; omega)] at h1
        exact h1
      go_wp2
      all_goals (go_ret; refine ⟨ret_bool ?_, hbw⟩; simp [restB, hE.out, *])

set_option maxHeartbeats 1000000 in
set_option maxRecDepth 100000 in
theorem same_len (a b : Cmd) (w : World) (h : a.bs.length ≠ b.bs.length) :
  Calls Tryd.prog 83 #[a.val, b.val] w fun e w' => e = .returned (.bool (a.bs == b.bs && restB a b)) ∧ Below w.heap.size w w' := by
  have hl : ((a.bs.length : Int) != b.bs.length) = true := by simp; omega
  have H := Lib.hid h; clear h
  go_enter Tryd.func83, Tryd.ntmps83
  go_wp2
  go_ret
  refine ⟨ret_bool ?_, below_two _ _ _ _ _⟩
  have : ¬ a.bs = b.bs := fun e => H.out (by rw [e])
  simp [this]

set_option maxHeartbeats 1000000 in
set_option maxRecDepth 100000 in
theorem same_nil (a b : Cmd) (w : World) (ha : a.bs.length = 0) (hb : b.bs.length = 0) :
  Calls Tryd.prog 83 #[a.val, b.val] w fun e w' => e = .returned (.bool (a.bs == b.bs && restB a b)) ∧ Below w.heap.size w w' := by
  have hE : Hid (a.bs = b.bs) := by
    show a.bs = b.bs
    rw [List.eq_nil_of_length_eq_zero ha, List.eq_nil_of_length_eq_zero hb]
  go_enter Tryd.func83, Tryd.ntmps83
  go_wp2
  refine wp_loop_rounds 1 ?_
  rw [rounds_succ]
  go_wp2
  all_goals (go_ret; refine ⟨ret_bool ?_, below_two _ _ _ _ _⟩; simp [restB, hE.out, *])

theorem same_any (a b : Cmd) (w : World) (hda : Dat w a.da a.bs) (hdb : Dat w b.da b.bs) (hm : (a.bs.length : Int) ≤ 17592186044416) :
  Calls Tryd.prog 83 #[a.val, b.val] w fun e w' => e = .returned (.bool (a.bs == b.bs && restB a b)) ∧ Below w.heap.size w w' := by
  by_cases h : a.bs.length = b.bs.length
  · by_cases h0 : 0 < a.bs.length
    · exact same_ne a b w h h0 hda hdb hm
    · exact same_nil a b w (by omega) (by omega)
  · exact same_len a b w h
end Go.Proofs.YtfbafjlhdbjgoaaDoor
