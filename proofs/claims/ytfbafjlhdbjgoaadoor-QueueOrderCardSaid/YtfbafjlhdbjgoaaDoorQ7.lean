/- Clone of blocks, duplicate of a command, New. -/
import Derived.Test.YtfbafjlhdbjgoaaDoorQ6
import Derived.Test.YtfbafjlhdbjgoaaDoorE1
import Derived.Lib.SliceRun
namespace Go.Proofs.YtfbafjlhdbjgoaaDoor
set_option linter.unusedVariables false
set_option linter.unusedSimpArgs false
open Go.RowKit Go.Sort
set_option maxRecDepth 100000

def c8 (x : B8) : List Value := [.int .u8 x.x0, .int .u8 x.x1, .int .u8 x.x2, .int .u8 x.x3, .int .u8 x.x4, .int .u8 x.x5, .int .u8 x.x6, .int .u8 x.x7]
def flat8 (bs : List B8) : List Value := bs.flatMap c8
theorem flat8_len : ∀ bs : List B8, (flat8 bs).length = bs.length * 8
  | [] => rfl
  | x :: bs => by
    have := flat8_len bs
    simp only [flat8, List.flatMap_cons, List.length_append, List.length_cons] at *
    rw [this]
    simp [c8]; omega
theorem flat8_at : ∀ (bs : List B8) (i k : Nat) (x : B8), bs[i]? = some x → k < 8 → (flat8 bs)[i * 8 + k]? = (c8 x)[k]?
  | [], i, k, x, h, _ => by simp at h
  | y :: bs, 0, k, x, h, hk => by
    have : y = x := by simpa using h
    subst this
    simp only [flat8, List.flatMap_cons]
    rw [List.getElem?_append_left (by simp [c8]; omega)]
    simp
  | y :: bs, i + 1, k, x, h, hk => by
    have ih := flat8_at bs i k x (by simpa using h) hk
    simp only [flat8, List.flatMap_cons] at *
    rw [List.getElem?_append_right (by simp [c8]; omega), ← ih]
    congr 1
    simp [c8]; omega
theorem flat8_one (bs : List B8) : ∀ u ∈ flat8 bs, u.oneCell' = true := by
  intro u hu
  simp only [flat8, List.mem_flatMap] at hu
  obtain ⟨x, _, hx⟩ := hu
  simp only [c8, List.mem_cons, List.mem_nil_iff, or_false] at hx
  rcases hx with rfl | rfl | rfl | rfl | rfl | rfl | rfl | rfl <;> rfl
theorem at8_cell {w : World} {b o : Nat} {x : B8} (h : At8 w b o x) (k : Nat) (hk : k < 8) : w.cell? ⟨b, o + k, none⟩ = (c8 x)[k]? := by
  obtain ⟨h0, h1, h2, h3, h4, h5, h6, h7⟩ := h
  match k, hk with
  | 0, _ => exact h0
  | 1, _ => exact h1
  | 2, _ => exact h2
  | 3, _ => exact h3
  | 4, _ => exact h4
  | 5, _ => exact h5
  | 6, _ => exact h6
  | 7, _ => exact h7
theorem at8_of {w : World} {b o : Nat} {x : B8} (h : ∀ k, k < 8 → w.cell? ⟨b, o + k, none⟩ = (c8 x)[k]?) : At8 w b o x :=
  ⟨h 0 (by omega), h 1 (by omega), h 2 (by omega), h 3 (by omega), h 4 (by omega), h 5 (by omega), h 6 (by omega), h 7 (by omega)⟩
theorem dat_flat {w : World} {b o : Nat} {bs : List B8} (h : ∀ i x, bs[i]? = some x → At8 w b (o + i * 8) x) : ∀ j u, (flat8 bs)[j]? = some u → w.cell? ((⟨b, o, none⟩ : Addr).add j) = some u := by
  intro j u hj
  have hl := (List.getElem?_eq_some_iff.1 hj).1
  rw [flat8_len] at hl
  obtain ⟨x, hx⟩ : ∃ x, bs[j / 8]? = some x := ⟨_, List.getElem?_eq_getElem (by omega)⟩
  have h1 := flat8_at bs (j / 8) (j % 8) x hx (Nat.mod_lt _ (by omega))
  have e : j / 8 * 8 + j % 8 = j := by omega
  rw [e, hj] at h1
  have h2 := at8_cell (h (j / 8) x hx) (j % 8) (Nat.mod_lt _ (by omega))
  rw [Go.WideShapes.add_plain, h1, ← h2]
  congr 2
  omega
/-- The block at this address may be written. -/
def Thaw (w : World) (da : Option Addr) : Prop := ∀ b o, da = some ⟨b, o, none⟩ → ∃ cs t, w.heap[b]? = some (.cells cs t (0, 0))
theorem Thaw.mono {w w' : World} {da : Option Addr} (h : Thaw w da) (hb : RowKit.Below w.heap.size w w') : Thaw w' da := fun b o e => by
  obtain ⟨cs, t, hc⟩ := h b o e
  have hlt : b < w.heap.size := by
    rcases Nat.lt_or_ge b w.heap.size with h | h
    · exact h
    · rw [Array.getElem?_eq_none h] at hc; cases hc
  exact ⟨cs, t, (hb.block b hlt).trans hc⟩
theorem Thaw.setCell {w : World} {da : Option Addr} (h : Thaw w da) (p : Addr) (v : Value) : Thaw (w.setCell p v) da := fun b o e => by
  obtain ⟨cs, t, hc⟩ := h b o e
  by_cases hp : b = p.block
  · subst hp
    exact ⟨_, t, by simp [World.setCell, Array.getElem?_modify, hc]; rfl⟩
  · exact ⟨cs, t, (RowKit.Below.heap_setCell w p v b hp).trans hc⟩
theorem Thaw.free {w : World} {b o : Nat} (h : Thaw w (some ⟨b, o, none⟩)) (j : Nat) : w.frozen? ⟨b, j, none⟩ = false := by
  obtain ⟨cs, t, hc⟩ := h b o rfl
  simp [World.frozen?, hc]
theorem ownsBlocks {w : World} {base : Nat} {v : Value} {bs : List B8} (h : w.ownsRow base 60 8 v bs.length (flat8 bs)) : ∃ a c, v = .slice a bs.length c ∧ Dat w a bs ∧ (∀ b o, a = some ⟨b, o, none⟩ → base ≤ b) ∧ Thaw w a := by
  obtain ⟨hl, h | ⟨g, cap, cur, e, hb, hh, hc, hm, ht⟩⟩ := h
  · obtain ⟨e1, e2⟩ := h
    have : bs = [] := by simpa using e2
    subst this
    exact ⟨none, 0, e1, fun h => absurd h (by simp), fun b o h => (by cases h), fun b o h => (by cases h)⟩
  · refine ⟨_, cap, e, fun _ => ⟨g, 0, rfl, fun i x hx => ?_⟩, fun b o h => (by injection h with h; injection h with h1 h2; omega), fun b o h => (by injection h with h; injection h with h1 h2; subst h1; exact ⟨cur, 60, hh⟩)⟩
    subst e
    have hk : i < bs.length := (List.getElem?_eq_some_iff.1 hx).1
    refine at8_of fun k hk8 => ?_
    have := World.ownsRow.cellAt (w := w) (base := base) (e := 60) (size := 8) (g := g) (n := bs.length) (cap := cap) (xs := flat8 bs) ⟨hl, .inr ⟨g, cap, cur, rfl, hb, hh, hc, hm, ht⟩⟩ (i * 8 + k) (by omega)
    rw [show 0 + i * 8 + k = i * 8 + k by omega, this]
    exact flat8_at bs i k x hx hk8
theorem info60z : ∃ i0 z, Tryd.prog.info? 60 = some i0 ∧ i0.zero = some z ∧ i0.size = 8 ∧ i0.bytes = 8 ∧ z.cells.size = 8 := by
  have h := info60
  obtain ⟨i0, hi⟩ : ∃ i0, Tryd.prog.info? 60 = some i0 := by
    cases hx : Tryd.prog.info? 60 with
    | none => rw [hx] at h; cases h
    | some i0 => exact ⟨i0, rfl⟩
  rw [hi] at h
  simp only [Option.map_some, Option.some.injEq, Prod.mk.injEq] at h
  obtain ⟨hz, hs, hb⟩ := h
  obtain ⟨z, hz0, hz1⟩ := Option.map_eq_some_iff.1 hz
  exact ⟨i0, z, hi, hz0, hs, hb, by rw [hz1]; rfl⟩

theorem ownsRow_empty (w : World) : (w.alloc (.cells #[] 60)).ownsRow w.heap.size 60 8 (.slice (some ⟨w.heap.size, 0, none⟩) 0 0) 0 [] :=
  ⟨rfl, .inr ⟨w.heap.size, 0, #[], rfl, Nat.le_refl _, heap_alloc_new w _, Nat.le_refl _, Nat.zero_le _, rfl, rfl⟩⟩

theorem eqlNil22 (w : World) (a : Option Addr) (n c : Nat) : (binOp .eql 22 (.slice a n c) (.slice none 0 0)).run Tryd.prog w = .ok (.bool a.isNone) w := Go.Lib.run_eql_slice_nil w 22 60 a n c 0 0 Tryd.underlying22
set_option maxHeartbeats 2000000 in
theorem clone_any (da : Option Addr) (dc : Nat) (bs : List B8) (w : World) (hd : Dat w da bs) (hl : (bs.length : Int) ≤ 17592186044416) :
    Calls Tryd.prog 79 #[.slice da bs.length dc] w fun e w' => (∃ a c, e = .returned (.slice a bs.length c) ∧ Dat w' a bs ∧ (∀ b o, a = some ⟨b, o, none⟩ → w.heap.size ≤ b) ∧ Thaw w' a) ∧ RowKit.Below w.heap.size w w' := by
  obtain ⟨i0, z, hi, hz0, hz1, hz2, hzs⟩ := info60z
  cases da with
  | none =>
    have hb : bs = [] := by
      rcases Nat.eq_zero_or_pos bs.length with h | h
      · exact List.eq_nil_of_length_eq_zero h
      · obtain ⟨b, o, e, _⟩ := hd h
        cases e
    subst hb
    clear hd
    have hq : ∀ w, (binOp .eql 22 (.slice none 0 dc) (.slice none 0 0)).run Tryd.prog w = .ok (.bool true) w := fun w => eqlNil22 w none 0 dc
    simp only [List.length_nil]
    go_enter Tryd.func79, Tryd.ntmps79
    go_wp2
    go_ret
    exact ⟨⟨none, 0, rfl, fun h => absurd h (by decide), fun b o h => (by cases h), fun b o h => (by cases h)⟩, RowKit.Below.refl _ _⟩
  | some ad =>
    have hnews : Hid (∀ j u, (flat8 bs)[j]? = some u → (w.alloc (.cells #[] 60)).cell? (ad.add j) = some u) := by
      intro j u hj
      have hp : 0 < bs.length := by
        have := (List.getElem?_eq_some_iff.1 hj).1
        rw [flat8_len] at this; omega
      obtain ⟨b, o, e, hc⟩ := hd hp
      injection e with e
      subst e
      exact dat_flat (fun i x hx => (hc i x hx).mono (below_box w _ _)) j u hj
    clear hd
    have hq : ∀ w, (binOp .eql 22 (.slice (some ad) bs.length dc) (.slice none 0 0)).run Tryd.prog w = .ok (.bool false) w := fun w => eqlNil22 w (some ad) bs.length dc
    go_enter Tryd.func79, Tryd.ntmps79
    go_wp2_with (at_builtin; refine wpList_append_own _ rfl _ _ 22 rfl w.heap.size 60 i0 z 8 8 Tryd.underlying22 hi hz0 hz1 hz2 hzs (by decide) _ 0 [] rfl (ownsRow_empty w) ad bs.length dc (flat8 bs) rfl (flat8_len bs) hnews.out (flat8_one bs) ?c3 ?c4 ?c5 ?_)
    case c3 => unfold maxLen; omega
    case c4 => omega
    case c5 => simp
    intro v' w2 hown' hgrow' _
    obtain ⟨a', c', rfl, hD, hfr, hth⟩ := ownsBlocks hown'
    have hB : RowKit.Below w.heap.size w w2 := (below_box w #[] 60).grown hgrow' (by simp) (fun k hk => by injection hk with hk; simp at hk; omega)
    clear hown' hgrow'
    go_wp2
    go_ret
    exact ⟨⟨a', c', rfl, hD, hfr, hth⟩, hB⟩

/-- The command, its data at another place. -/
def Cmd.re (c : Cmd) (da : Option Addr) (dc : Nat) : Cmd := { c with da := da, dc := dc }

theorem At8.setCell {w : World} {b o : Nat} {x : B8} (h : At8 w b o x) {p : Addr} (hp : b ≠ p.block) (v : Value) : At8 (w.setCell p v) b o x := by
  have k : ∀ j, (w.setCell p v).cell? ⟨b, j, none⟩ = w.cell? ⟨b, j, none⟩ := fun j => World.cell?_of_block (w := w) (RowKit.Below.heap_setCell w p v b hp)
  obtain ⟨h0, h1, h2, h3, h4, h5, h6, h7⟩ := h
  exact ⟨(k _).trans h0, (k _).trans h1, (k _).trans h2, (k _).trans h3, (k _).trans h4, (k _).trans h5, (k _).trans h6, (k _).trans h7⟩
theorem Dat.setCell {w : World} {da : Option Addr} {bs : List B8} (h : Dat w da bs) {p : Addr} (hp : ∀ b o, da = some ⟨b, o, none⟩ → b ≠ p.block) (v : Value) : Dat (w.setCell p v) da bs := fun hl => by
  obtain ⟨b, o, e, hc⟩ := h hl
  exact ⟨b, o, e, fun i x hx => (hc i x hx).setCell (hp b o e) v⟩
theorem set_row {w : World} {g : Nat} {cs : Array Value} {t : TypeId} {fr : Nat × Nat} (h : w.heap[g]? = some (.cells cs t fr)) (j : Nat) (v : Value) : (w.setCell ⟨g, j, none⟩ v).heap[g]? = some (.cells (cs.setIfInBounds j v) t fr) := by
  simp [World.setCell, Array.getElem?_modify, h]
theorem row_of_sets {w1 : World} {g : Nat} {c0 c : Cmd} (h : w1.heap[g]? = some (.cells c0.arr 24 (0, 0))) :
    (((((((((w1.setCell ⟨g, 0, none⟩ (.int .i64 c.tag)).setCell ⟨g, 1, none⟩ (.int .i64 c.kind)).setCell ⟨g, 2, none⟩ (.int .i64 c.ord)).setCell ⟨g, 3, none⟩ (.bool c.force)).setCell ⟨g, 4, none⟩ (.string c.vol)).setCell ⟨g, 5, none⟩ (.string c.oth)).setCell ⟨g, 6, none⟩ (.int .i64 c.pos)).setCell ⟨g, 7, none⟩ (.int .i64 c.len)).setCell ⟨g, 8, none⟩ (.slice c.da c.bs.length c.dc)).heap[g]? = some (.cells c.arr 24 (0, 0)) := by
  have h9 := set_row (set_row (set_row (set_row (set_row (set_row (set_row (set_row (set_row h 0 (.int .i64 c.tag)) 1 (.int .i64 c.kind)) 2 (.int .i64 c.ord)) 3 (.bool c.force)) 4 (.string c.vol)) 5 (.string c.oth)) 6 (.int .i64 c.pos)) 7 (.int .i64 c.len)) 8 (.slice c.da c.bs.length c.dc)
  simp only [Cmd.arr, List.setIfInBounds_toArray, List.set_cons_zero, List.set_cons_succ] at h9 ⊢
  exact h9
theorem below_sets {B : Nat} {w w1 : World} {g : Nat} {c : Cmd} (h : RowKit.Below B w w1) (hg : B ≤ g) :
    RowKit.Below B w (((((((((w1.setCell ⟨g, 0, none⟩ (.int .i64 c.tag)).setCell ⟨g, 1, none⟩ (.int .i64 c.kind)).setCell ⟨g, 2, none⟩ (.int .i64 c.ord)).setCell ⟨g, 3, none⟩ (.bool c.force)).setCell ⟨g, 4, none⟩ (.string c.vol)).setCell ⟨g, 5, none⟩ (.string c.oth)).setCell ⟨g, 6, none⟩ (.int .i64 c.pos)).setCell ⟨g, 7, none⟩ (.int .i64 c.len)).setCell ⟨g, 8, none⟩ (.slice c.da c.bs.length c.dc)) :=
  ((((((((h.setCell (p := ⟨g, 0, none⟩) hg _).setCell (p := ⟨g, 1, none⟩) hg _).setCell (p := ⟨g, 2, none⟩) hg _).setCell (p := ⟨g, 3, none⟩) hg _).setCell (p := ⟨g, 4, none⟩) hg _).setCell (p := ⟨g, 5, none⟩) hg _).setCell (p := ⟨g, 6, none⟩) hg _).setCell (p := ⟨g, 7, none⟩) hg _).setCell (p := ⟨g, 8, none⟩) hg _
theorem dat_sets {w1 : World} {g : Nat} {c : Cmd} {da : Option Addr} {bs : List B8} (h : Dat w1 da bs) (hg : ∀ b o, da = some ⟨b, o, none⟩ → b ≠ g) :
    Dat (((((((((w1.setCell ⟨g, 0, none⟩ (.int .i64 c.tag)).setCell ⟨g, 1, none⟩ (.int .i64 c.kind)).setCell ⟨g, 2, none⟩ (.int .i64 c.ord)).setCell ⟨g, 3, none⟩ (.bool c.force)).setCell ⟨g, 4, none⟩ (.string c.vol)).setCell ⟨g, 5, none⟩ (.string c.oth)).setCell ⟨g, 6, none⟩ (.int .i64 c.pos)).setCell ⟨g, 7, none⟩ (.int .i64 c.len)).setCell ⟨g, 8, none⟩ (.slice c.da c.bs.length c.dc)) da bs :=
  ((((((((h.setCell (p := ⟨g, 0, none⟩) hg _).setCell (p := ⟨g, 1, none⟩) hg _).setCell (p := ⟨g, 2, none⟩) hg _).setCell (p := ⟨g, 3, none⟩) hg _).setCell (p := ⟨g, 4, none⟩) hg _).setCell (p := ⟨g, 5, none⟩) hg _).setCell (p := ⟨g, 6, none⟩) hg _).setCell (p := ⟨g, 7, none⟩) hg _).setCell (p := ⟨g, 8, none⟩) hg _
theorem new_row_cell (w : World) (cs : Array Value) (t : TypeId) (j : Nat) (v : Value) (h : cs[j]? = some v) : (w.alloc (.cells cs t)).cell? ⟨w.heap.size, j, none⟩ = some v := by
  rw [World.cell?, heap_alloc_new]
  simp [h]

set_option maxHeartbeats 4000000 in
theorem dup_any (c : Cmd) (w : World) (h : CmdOk w c) :
    Calls Tryd.prog 65 #[c.val] w fun e w' => (∃ da dc, e = .returned (c.re da dc).val ∧ CmdOk w' (c.re da dc) ∧ (∀ b o, da = some ⟨b, o, none⟩ → w.heap.size ≤ b) ∧ Thaw w' da) ∧ RowKit.Below w.heap.size w w' := by
  have hv := h.vs
  have ho := h.os
  have hl := h.len
  have hD := h.dat
  clear h
  have hb2 := below_two w c.arr cmdz.arr 24 24
  have CC := clone_any c.da c.dc c.bs _ (hD.mono hb2) hl
  go_enter Tryd.func65, Tryd.ntmps65
  go_wp2_with fail
  refine CC.mono ?_
  rintro e w1 ⟨⟨a, c1, rfl, hD1, hfr, hth⟩, hB⟩
  clear CC
  have hBw := hb2.trans (hB.mono hb2.size)
  have e0 : w1.heap[w.heap.size]? = some (.cells c.arr 24 (0, 0)) := by
    rw [hB.block w.heap.size (by simp; omega), RowKit.Below.heap_alloc _ _ _ (by simp)]
    exact heap_alloc_new w _
  have e1 : w1.heap[w.heap.size + 1]? = some (.cells cmdz.arr 24 (0, 0)) := by
    rw [hB.block (w.heap.size + 1) (by simp), size_alloc1 w (.cells c.arr 24)]
    exact heap_alloc_new _ _
  have hs : w.heap.size + 1 < w1.heap.size := by have := hB.size; simp at this; omega
  clear hb2 hB
  have p0 : w1.cell? ⟨w.heap.size, 0, none⟩ = some (.int .i64 c.tag) := by rw [World.cell?, e0]; rfl
  have p1 : w1.cell? ⟨w.heap.size, 1, none⟩ = some (.int .i64 c.kind) := by rw [World.cell?, e0]; rfl
  have p2 : w1.cell? ⟨w.heap.size, 2, none⟩ = some (.int .i64 c.ord) := by rw [World.cell?, e0]; rfl
  have p3 : w1.cell? ⟨w.heap.size, 3, none⟩ = some (.bool c.force) := by rw [World.cell?, e0]; rfl
  have p4 : w1.cell? ⟨w.heap.size, 4, none⟩ = some (.string c.vol) := by rw [World.cell?, e0]; rfl
  have p5 : w1.cell? ⟨w.heap.size, 5, none⟩ = some (.string c.oth) := by rw [World.cell?, e0]; rfl
  have p6 : w1.cell? ⟨w.heap.size, 6, none⟩ = some (.int .i64 c.pos) := by rw [World.cell?, e0]; rfl
  have p7 : w1.cell? ⟨w.heap.size, 7, none⟩ = some (.int .i64 c.len) := by rw [World.cell?, e0]; rfl
  have p8 : w1.cell? ⟨w.heap.size, 8, none⟩ = some (.slice c.da c.bs.length c.dc) := by rw [World.cell?, e0]; rfl
  have z0 : w1.cell? ⟨w.heap.size + 1, 0, none⟩ = some (.int .i64 0) := by rw [World.cell?, e1]; rfl
  have z1 : w1.cell? ⟨w.heap.size + 1, 1, none⟩ = some (.int .i64 0) := by rw [World.cell?, e1]; rfl
  have z2 : w1.cell? ⟨w.heap.size + 1, 2, none⟩ = some (.int .i64 0) := by rw [World.cell?, e1]; rfl
  have z3 : w1.cell? ⟨w.heap.size + 1, 3, none⟩ = some (.bool false) := by rw [World.cell?, e1]; rfl
  have z4 : w1.cell? ⟨w.heap.size + 1, 4, none⟩ = some (.string ⟨#[]⟩) := by rw [World.cell?, e1]; rfl
  have z5 : w1.cell? ⟨w.heap.size + 1, 5, none⟩ = some (.string ⟨#[]⟩) := by rw [World.cell?, e1]; rfl
  have z6 : w1.cell? ⟨w.heap.size + 1, 6, none⟩ = some (.int .i64 0) := by rw [World.cell?, e1]; rfl
  have z7 : w1.cell? ⟨w.heap.size + 1, 7, none⟩ = some (.int .i64 0) := by rw [World.cell?, e1]; rfl
  have z8 : w1.cell? ⟨w.heap.size + 1, 8, none⟩ = some (.slice none 0 0) := by rw [World.cell?, e1]; rfl
  have f0 : ∀ j, w1.frozen? ⟨w.heap.size, j, none⟩ = false := fun j => by simp [World.frozen?, e0]
  have f1 : ∀ j, w1.frozen? ⟨w.heap.size + 1, j, none⟩ = false := fun j => by simp [World.frozen?, e1]
  have HD := Lib.hid hD1
  have HFR := Lib.hid hfr
  have HTH := Lib.hid hth
  have HE1 := Lib.hid e1
  clear e0 e1 hD1 hfr hD hth
  go_wp2
  have hne : ∀ b o, a = some ⟨b, o, none⟩ → b ≠ w.heap.size ∧ b ≠ w.heap.size + 1 := fun b o e => by
    have := HFR.out b o e
    simp at this
    omega
  refine bodyPost_ret (v := (c.re a c1).val) ?_ rfl ?_
  · have r0 : (w1.setCell ⟨w.heap.size, 8, none⟩ (.slice a c.bs.length c1)).heap[w.heap.size + 1]? = some (.cells cmdz.arr 24 (0, 0)) := (RowKit.Below.heap_setCell w1 _ _ _ (by simp)).trans HE1.out
    exact results_cell_row (P := Tryd.prog) Tryd.results65 _ _ (w.heap.size + 1) 24 (c.re a c1).arr (0, 0) _ rfl (row_of_sets (c0 := cmdz) (c := c.re a c1) r0) Tryd.underlying24 rfl (by kernel_rfl)
  · refine ⟨⟨a, c1, rfl, ⟨?_, hl, hv, ho⟩, fun b o e => (by have := HFR.out b o e; simp at this; omega), (((((((((HTH.out.setCell _ _).setCell _ _).setCell _ _).setCell _ _).setCell _ _).setCell _ _).setCell _ _).setCell _ _).setCell _ _).setCell _ _⟩, ?_⟩
    · exact (((((((((HD.out.setCell (p := ⟨w.heap.size, 8, none⟩) (fun b o e => (hne b o e).1) _).setCell (p := ⟨w.heap.size + 1, 0, none⟩) (fun b o e => (hne b o e).2) _).setCell (p := ⟨w.heap.size + 1, 1, none⟩) (fun b o e => (hne b o e).2) _).setCell (p := ⟨w.heap.size + 1, 2, none⟩) (fun b o e => (hne b o e).2) _).setCell (p := ⟨w.heap.size + 1, 3, none⟩) (fun b o e => (hne b o e).2) _).setCell (p := ⟨w.heap.size + 1, 4, none⟩) (fun b o e => (hne b o e).2) _).setCell (p := ⟨w.heap.size + 1, 5, none⟩) (fun b o e => (hne b o e).2) _).setCell (p := ⟨w.heap.size + 1, 6, none⟩) (fun b o e => (hne b o e).2) _).setCell (p := ⟨w.heap.size + 1, 7, none⟩) (fun b o e => (hne b o e).2) _).setCell (p := ⟨w.heap.size + 1, 8, none⟩) (fun b o e => (hne b o e).2) _
    · exact (((((((((hBw.setCell (p := ⟨w.heap.size, 8, none⟩) (Nat.le_refl _) _).setCell (p := ⟨w.heap.size + 1, 0, none⟩) (Nat.le_succ _) _).setCell (p := ⟨w.heap.size + 1, 1, none⟩) (Nat.le_succ _) _).setCell (p := ⟨w.heap.size + 1, 2, none⟩) (Nat.le_succ _) _).setCell (p := ⟨w.heap.size + 1, 3, none⟩) (Nat.le_succ _) _).setCell (p := ⟨w.heap.size + 1, 4, none⟩) (Nat.le_succ _) _).setCell (p := ⟨w.heap.size + 1, 5, none⟩) (Nat.le_succ _) _).setCell (p := ⟨w.heap.size + 1, 6, none⟩) (Nat.le_succ _) _).setCell (p := ⟨w.heap.size + 1, 7, none⟩) (Nat.le_succ _) _).setCell (p := ⟨w.heap.size + 1, 8, none⟩) (Nat.le_succ _) _
end Go.Proofs.YtfbafjlhdbjgoaaDoor
