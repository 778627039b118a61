/- Slices that read as lists; Same, isDone, few. -/
import Derived.Test.YtfbafjlhdbjgoaaDoorA10
import Derived.Lib.QuietBelow
namespace Go.Proofs.YtfbafjlhdbjgoaaDoor
set_option linter.unusedVariables false
set_option linter.unusedSimpArgs false
open Go.RowKit Go.Sort

def Ints (w : World) (a : Option Addr) (xs : List Int) : Prop := 0 < xs.length → ∃ b o, a = some ⟨b, o, none⟩ ∧ ∀ i x, xs[i]? = some x → w.cell? ⟨b, o + i, none⟩ = some (.int .i64 x)
def Bools (w : World) (a : Option Addr) (xs : List Bool) : Prop := 0 < xs.length → ∃ b o, a = some ⟨b, o, none⟩ ∧ ∀ i x, xs[i]? = some x → w.cell? ⟨b, o + i, none⟩ = some (.bool x)

theorem cell_keep {w w' : World} (hb : Below w.heap.size w w') {p : Addr} {v : Value} (h : w.cell? p = some v) : w'.cell? p = some v := (hb.cell (block_lt_of_cell h)).trans h
theorem Ints.mono {w w' : World} {a : Option Addr} {xs : List Int} (h : Ints w a xs) (hb : Below w.heap.size w w') : Ints w' a xs := fun hl => by
  obtain ⟨b, o, e, hc⟩ := h hl
  exact ⟨b, o, e, fun i x hx => cell_keep hb (hc i x hx)⟩
theorem Bools.mono {w w' : World} {a : Option Addr} {xs : List Bool} (h : Bools w a xs) (hb : Below w.heap.size w w') : Bools w' a xs := fun hl => by
  obtain ⟨b, o, e, hc⟩ := h hl
  exact ⟨b, o, e, fun i x hx => cell_keep hb (hc i x hx)⟩

theorem eq_of_take {α : Type} {xs ys : List α} {k : Nat} (h : xs.take k = ys.take k) (hx : xs.length ≤ k) (hy : ys.length ≤ k) : xs = ys := by
  rwa [List.take_of_length_le hx, List.take_of_length_le hy] at h
theorem ne_of_at {α : Type} {xs ys : List α} {k : Nat} {x y : α} (hx : xs[k]? = some x) (hy : ys[k]? = some y) (h : x ≠ y) : xs ≠ ys := fun e => by
  rw [e, hy] at hx
  injection hx with hx
  exact h hx.symm

set_option maxHeartbeats 1000000 in
set_option maxRecDepth 100000 in
theorem same_ints_ne (aa ba : Option Addr) (ac bc : Nat) (xs ys : List Int) (w : World) (hl : xs.length = ys.length) (hp : 0 < xs.length) (hx : Ints w aa xs) (hy : Ints w ba ys) (hm : (xs.length : Int) ≤ 17592186044416) :
    Calls Tryd.prog 22 #[.slice aa xs.length ac, .slice ba ys.length bc] w fun e w' => e = .returned (.bool (xs == ys)) ∧ Below w.heap.size w w' := by
  have hne : ((xs.length : Int) != ys.length) = false := by simp [hl]
  obtain ⟨b1, o1, e1, c1⟩ := hx hp
  obtain ⟨b2, o2, e2, c2⟩ := hy (by omega)
  have HL := Lib.hid hl
  clear hl
  go_enter Tryd.func22, Tryd.ntmps22
  go_wp2
  go_loopw [5] (fun i wr => ∃ k : Nat, k ≤ xs.length ∧ i = .int .i64 k ∧ xs.take k = ys.take k ∧ ∃ n, wr = w.drewN n) (fun i _ => xs.length - (intOf i).toNat)
  case atStart => exact ⟨0, Nat.zero_le _, rfl, rfl, 0, rfl⟩
  case round =>
    obtain ⟨k, hk, rfl, ht, n, rfl⟩ := hrel
    have HT := Lib.hid ht
    clear ht
    by_cases hlt : k < xs.length
    · have hlt2 : k < ys.length := by have := HL.out; omega
      obtain ⟨x, hxk⟩ : ∃ x, xs[k]? = some x := ⟨_, List.getElem?_eq_getElem hlt⟩
      obtain ⟨y, hyk⟩ : ∃ y, ys[k]? = some y := ⟨_, List.getElem?_eq_getElem hlt2⟩
      have g1 := c1 k x hxk
      have g2 := c2 k y hyk
      have HX := Lib.hid hxk
      have HY := Lib.hid hyk
      clear hxk hyk c1 c2
      go_wp2
      go_quiet (fail)
      go_wp2
      · go_ret
        refine ⟨ret_bool ?_, below_drewN (below_drewN (Below.refl _ _) _) _⟩
        rename_i hne2
        have := ne_of_at HX.out HY.out (by simpa using hne2)
        simp [this]
      · go_roundw
        case rel => exact ⟨k + 1, by omega, by go_num, take_succ_eq HX.out HY.out HT.out (by rename_i hne2; simpa using hne2), _, rfl⟩
        case measure => simp [intOf]; omega
    · have HE := Lib.hid (eq_of_take HT.out (by omega) (by have := HL.out; omega))
      go_wp2
      go_ret
      exact ⟨ret_bool (by rw [HE.out]; simp), below_drewN (Below.refl _ _) _⟩
set_option maxHeartbeats 1000000 in
set_option maxRecDepth 100000 in
theorem same_ints_any (aa ba : Option Addr) (ac bc : Nat) (xs ys : List Int) (w : World) (hx : Ints w aa xs) (hy : Ints w ba ys) (hm : (xs.length : Int) ≤ 17592186044416) :
    Calls Tryd.prog 22 #[.slice aa xs.length ac, .slice ba ys.length bc] w fun e w' => e = .returned (.bool (xs == ys)) ∧ Below w.heap.size w w' := by
  by_cases hl : xs.length = ys.length
  · by_cases hp : 0 < xs.length
    · exact same_ints_ne aa ba ac bc xs ys w hl hp hx hy hm
    · have e1 : xs = [] := List.eq_nil_of_length_eq_zero (by omega)
      have e2 : ys = [] := List.eq_nil_of_length_eq_zero (by omega)
      clear hx hy hm hp hl
      subst e1 e2
      go_enter Tryd.func22, Tryd.ntmps22
      go_wp2
      refine wp_loop_rounds 1 ?_
      rw [rounds_succ]
      go_wp2
      go_ret
      exact ⟨ret_bool rfl, Below.refl _ _⟩
  · have hne : ((xs.length : Int) != ys.length) = true := by simp; omega
    have HE := Lib.hid (show (xs == ys) = false by rw [beq_eq_false_iff_ne]; exact fun e => hl (by rw [e]))
    clear hl
    go_enter Tryd.func22, Tryd.ntmps22
    go_wp2
    go_ret
    exact ⟨ret_bool HE.out.symm, Below.refl _ _⟩

set_option maxHeartbeats 1000000 in
set_option maxRecDepth 100000 in
theorem same_ints41_ne (aa ba : Option Addr) (ac bc : Nat) (xs ys : List Int) (w : World) (hl : xs.length = ys.length) (hp : 0 < xs.length) (hx : Ints w aa xs) (hy : Ints w ba ys) (hm : (xs.length : Int) ≤ 17592186044416) :
    Calls Tryd.prog 42 #[.slice aa xs.length ac, .slice ba ys.length bc] w fun e w' => e = .returned (.bool (xs == ys)) ∧ Below w.heap.size w w' := by
  have hne : ((xs.length : Int) != ys.length) = false := by simp [hl]
  obtain ⟨b1, o1, e1, c1⟩ := hx hp
  obtain ⟨b2, o2, e2, c2⟩ := hy (by omega)
  have HL := Lib.hid hl
  clear hl
  go_enter Tryd.func42, Tryd.ntmps42
  go_wp2
  go_loopw [5] (fun i wr => ∃ k : Nat, k ≤ xs.length ∧ i = .int .i64 k ∧ xs.take k = ys.take k ∧ ∃ n, wr = w.drewN n) (fun i _ => xs.length - (intOf i).toNat)
  case atStart => exact ⟨0, Nat.zero_le _, rfl, rfl, 0, rfl⟩
  case round =>
    obtain ⟨k, hk, rfl, ht, n, rfl⟩ := hrel
    have HT := Lib.hid ht
    clear ht
    by_cases hlt : k < xs.length
    · have hlt2 : k < ys.length := by have := HL.out; omega
      obtain ⟨x, hxk⟩ : ∃ x, xs[k]? = some x := ⟨_, List.getElem?_eq_getElem hlt⟩
      obtain ⟨y, hyk⟩ : ∃ y, ys[k]? = some y := ⟨_, List.getElem?_eq_getElem hlt2⟩
      have g1 := c1 k x hxk
      have g2 := c2 k y hyk
      have HX := Lib.hid hxk
      have HY := Lib.hid hyk
      clear hxk hyk c1 c2
      go_wp2
      go_quiet (fail)
      go_wp2
      · go_ret
        refine ⟨ret_bool ?_, below_drewN (below_drewN (Below.refl _ _) _) _⟩
        rename_i hne2
        have := ne_of_at HX.out HY.out (by simpa using hne2)
        simp [this]
      · go_roundw
        case rel => exact ⟨k + 1, by omega, by go_num, take_succ_eq HX.out HY.out HT.out (by rename_i hne2; simpa using hne2), _, rfl⟩
        case measure => simp [intOf]; omega
    · have HE := Lib.hid (eq_of_take HT.out (by omega) (by have := HL.out; omega))
      go_wp2
      go_ret
      exact ⟨ret_bool (by rw [HE.out]; simp), below_drewN (Below.refl _ _) _⟩
set_option maxHeartbeats 1000000 in
set_option maxRecDepth 100000 in
theorem same_ints41_any (aa ba : Option Addr) (ac bc : Nat) (xs ys : List Int) (w : World) (hx : Ints w aa xs) (hy : Ints w ba ys) (hm : (xs.length : Int) ≤ 17592186044416) :
    Calls Tryd.prog 42 #[.slice aa xs.length ac, .slice ba ys.length bc] w fun e w' => e = .returned (.bool (xs == ys)) ∧ Below w.heap.size w w' := by
  by_cases hl : xs.length = ys.length
  · by_cases hp : 0 < xs.length
    · exact same_ints41_ne aa ba ac bc xs ys w hl hp hx hy hm
    · have e1 : xs = [] := List.eq_nil_of_length_eq_zero (by omega)
      have e2 : ys = [] := List.eq_nil_of_length_eq_zero (by omega)
      clear hx hy hm hp hl
      subst e1 e2
      go_enter Tryd.func42, Tryd.ntmps42
      go_wp2
      refine wp_loop_rounds 1 ?_
      rw [rounds_succ]
      go_wp2
      go_ret
      exact ⟨ret_bool rfl, Below.refl _ _⟩
  · have hne : ((xs.length : Int) != ys.length) = true := by simp; omega
    have HE := Lib.hid (show (xs == ys) = false by rw [beq_eq_false_iff_ne]; exact fun e => hl (by rw [e]))
    clear hl
    go_enter Tryd.func42, Tryd.ntmps42
    go_wp2
    go_ret
    exact ⟨ret_bool HE.out.symm, Below.refl _ _⟩

/-- Is command i done? -/
def doneAt (ds : List Bool) (i : Nat) : Bool := ds.getD i false
theorem doneAt_lt {ds : List Bool} {i : Nat} {b : Bool} (h : ds[i]? = some b) : doneAt ds i = b := by simp [doneAt, h]
theorem doneAt_ge {ds : List Bool} {i : Nat} (h : ds.length ≤ i) : doneAt ds i = false := by simp [doneAt, h]

set_option maxHeartbeats 1000000 in
set_option maxRecDepth 100000 in
theorem isDone_any (da : Option Addr) (dc : Nat) (ds : List Bool) (i : Nat) (w : World) (hd : Bools w da ds) :
    Calls Tryd.prog 54 #[.slice da ds.length dc, .int .i64 (i : Int)] w fun e w' => e = .returned (.bool (doneAt ds i)) ∧ w = w' := by
  by_cases hi : i < ds.length
  · obtain ⟨b, o, e, hc⟩ := hd (by omega)
    obtain ⟨x, hx⟩ : ∃ x, ds[i]? = some x := ⟨_, List.getElem?_eq_getElem hi⟩
    have g := hc i x hx
    have HX := Lib.hid (doneAt_lt hx)
    clear hx hc
    go_enter Tryd.func54, Tryd.ntmps54
    go_wp2
    go_ret
    exact ⟨ret_bool HX.out.symm, rfl⟩
  · have HX := Lib.hid (doneAt_ge (i := i) (show ds.length ≤ i by omega))
    clear hd
    go_enter Tryd.func54, Tryd.ntmps54
    go_wp2
    go_ret
    exact ⟨ret_bool HX.out.symm, rfl⟩

set_option maxHeartbeats 1000000 in
set_option maxRecDepth 100000 in
theorem finished_any (da : Option Addr) (dc : Nat) (ds : List Bool) (i : Nat) (B : Nat) (w : World) (hB : w.cell? ⟨B, 0, none⟩ = some (.slice da ds.length dc)) (hd : Bools w da ds) :
    Calls Tryd.prog 53 #[.int .i64 (i : Int), .pointer (some ⟨B, 0, none⟩)] w fun e w' => e = .returned (.bool (doneAt ds i)) ∧ w = w' := by
  by_cases hi : i < ds.length
  · obtain ⟨b, o, e, hc⟩ := hd (by omega)
    obtain ⟨x, hx⟩ : ∃ x, ds[i]? = some x := ⟨_, List.getElem?_eq_getElem hi⟩
    have g := hc i x hx
    have HX := Lib.hid (doneAt_lt hx)
    clear hx hc
    rw [e] at hB
    go_enter Tryd.func53, Tryd.ntmps53
    go_wp2
    go_ret
    exact ⟨ret_bool HX.out.symm, rfl⟩
  · have HX := Lib.hid (doneAt_ge (i := i) (show ds.length ≤ i by omega))
    clear hd
    go_enter Tryd.func53, Tryd.ntmps53
    go_wp2
    go_ret
    exact ⟨ret_bool HX.out.symm, rfl⟩

/-! ### Lists of commands -/
def BoxAt (w : World) (g o : Nat) (c : Cmd) : Prop :=
  w.cell? ⟨g, o, none⟩ = some (.int .i64 c.tag) ∧ w.cell? ⟨g, o + 1, none⟩ = some (.int .i64 c.kind) ∧ w.cell? ⟨g, o + 2, none⟩ = some (.int .i64 c.ord) ∧ w.cell? ⟨g, o + 3, none⟩ = some (.bool c.force) ∧ w.cell? ⟨g, o + 4, none⟩ = some (.string c.vol) ∧
  w.cell? ⟨g, o + 5, none⟩ = some (.string c.oth) ∧ w.cell? ⟨g, o + 6, none⟩ = some (.int .i64 c.pos) ∧ w.cell? ⟨g, o + 7, none⟩ = some (.int .i64 c.len) ∧ w.cell? ⟨g, o + 8, none⟩ = some (.slice c.da c.bs.length c.dc)
theorem BoxAt.mono {w w' : World} {g o : Nat} {c : Cmd} (h : BoxAt w g o c) (hb : Below w.heap.size w w') : BoxAt w' g o c := by
  obtain ⟨h0, h1, h2, h3, h4, h5, h6, h7, h8⟩ := h
  exact ⟨cell_keep hb h0, cell_keep hb h1, cell_keep hb h2, cell_keep hb h3, cell_keep hb h4, cell_keep hb h5, cell_keep hb h6, cell_keep hb h7, cell_keep hb h8⟩
/-- .. in every world that only grows out of w. -/
def BoxG (w : World) (g o : Nat) (c : Cmd) : Prop :=
  (∀ d os, (grow (redrawn w d) os).cell? ⟨g, o, none⟩ = some (.int .i64 c.tag)) ∧ (∀ d os, (grow (redrawn w d) os).cell? ⟨g, o + 1, none⟩ = some (.int .i64 c.kind)) ∧ (∀ d os, (grow (redrawn w d) os).cell? ⟨g, o + 2, none⟩ = some (.int .i64 c.ord)) ∧ (∀ d os, (grow (redrawn w d) os).cell? ⟨g, o + 3, none⟩ = some (.bool c.force)) ∧ (∀ d os, (grow (redrawn w d) os).cell? ⟨g, o + 4, none⟩ = some (.string c.vol)) ∧
  (∀ d os, (grow (redrawn w d) os).cell? ⟨g, o + 5, none⟩ = some (.string c.oth)) ∧ (∀ d os, (grow (redrawn w d) os).cell? ⟨g, o + 6, none⟩ = some (.int .i64 c.pos)) ∧ (∀ d os, (grow (redrawn w d) os).cell? ⟨g, o + 7, none⟩ = some (.int .i64 c.len)) ∧ (∀ d os, (grow (redrawn w d) os).cell? ⟨g, o + 8, none⟩ = some (.slice c.da c.bs.length c.dc))
theorem BoxAt.grown {w : World} {g o : Nat} {c : Cmd} (h : BoxAt w g o c) : BoxG w g o c := by
  obtain ⟨h0, h1, h2, h3, h4, h5, h6, h7, h8⟩ := h
  exact ⟨cell_regrown h0, cell_regrown h1, cell_regrown h2, cell_regrown h3, cell_regrown h4, cell_regrown h5, cell_regrown h6, cell_regrown h7, cell_regrown h8⟩

def Cmds (w : World) (la : Option Addr) (ls : List Cmd) : Prop :=
  (∀ (i : Nat) (c : Cmd), ls[i]? = some c → CmdOk w c) ∧ (0 < ls.length → ∃ b o, la = some ⟨b, o, none⟩ ∧ ∀ (i : Nat) (c : Cmd), ls[i]? = some c → BoxAt w b (o + i * 9) c)
theorem Cmds.mono {w w' : World} {a : Option Addr} {ls : List Cmd} (h : Cmds w a ls) (hb : Below w.heap.size w w') : Cmds w' a ls :=
  ⟨fun (i : Nat) (c : Cmd) hc => (h.1 i c hc).mono hb, fun hl => by
    obtain ⟨b, o, e, hc⟩ := h.2 hl
    exact ⟨b, o, e, fun i x hx => (hc i x hx).mono hb⟩⟩

/-- At most 14 commands with few data. -/
def fewC (c : Cmd) : Bool := decide (c.bs.length ≤ 40 ∧ c.vol.size + c.oth.size ≤ 100)
def fewB (ls : List Cmd) : Bool := ls.all fewC && decide (ls.length ≤ 14)
theorem all_succ {α : Type} {p : α → Bool} {l : List α} {k : Nat} {x : α} (hx : l[k]? = some x) (h : (l.take k).all p = true) (hp : p x = true) : (l.take (k + 1)).all p = true := by
  rw [List.take_add_one, hx, List.all_append, h]
  simp [hp]
theorem few_no {l : List Cmd} {k : Nat} {x : Cmd} (hx : l[k]? = some x) (h : fewC x = false) : fewB l = false := by
  have : l.all fewC = false := by
    rw [List.all_eq_false]
    exact ⟨x, List.mem_of_getElem? hx, by simp [h]⟩
  simp [fewB, this]

set_option maxHeartbeats 1000000 in
set_option maxRecDepth 100000 in
theorem few_ne (la : Option Addr) (lc : Nat) (ls : List Cmd) (w : World) (hp : 0 < ls.length) (h : Cmds w la ls) (hm : (ls.length : Int) ≤ 17592186044416) :
    Calls Tryd.prog 21 #[.slice la ls.length lc] w fun e w' => e = .returned (.bool (fewB ls)) ∧ Below w.heap.size w w' := by
  obtain ⟨hok, hcs⟩ := h
  obtain ⟨b, o, e, hc⟩ := hcs hp
  go_enter Tryd.func21, Tryd.ntmps21
  go_wp2
  go_loopw [3] (fun i wr => ∃ k : Nat, k ≤ ls.length ∧ i = .int .i64 k ∧ (ls.take k).all fewC = true ∧ ∃ n, wr = w.drewN n) (fun i _ => ls.length - (intOf i).toNat)
  case atStart => exact ⟨0, Nat.zero_le _, rfl, by simp, 0, rfl⟩
  case round =>
    obtain ⟨k, hk, rfl, ht, n, rfl⟩ := hrel
    have HT := Lib.hid ht
    clear ht
    by_cases hlt : k < ls.length
    · obtain ⟨x, hx⟩ : ∃ x, ls[k]? = some x := ⟨_, List.getElem?_eq_getElem hlt⟩
      obtain ⟨g0, g1, g2, g3, g4, g5, g6, g7, g8⟩ := hc k x hx
      have hxo := hok k x hx
      have v1 := hxo.vs
      have v2 := hxo.os
      have v3 := hxo.len
      have HX := Lib.hid hx
      clear hx hok hc hxo
      by_cases h1 : x.bs.length ≤ 40
      · have hd : decide ((40 : Int) < x.bs.length) = false := decide_eq_false (by omega)
        by_cases h2 : x.vol.size + x.oth.size ≤ 100
        · have hd2 : decide ((100 : Int) < x.vol.size + x.oth.size) = false := decide_eq_false (by omega)
          have HN := Lib.hid (all_succ HX.out HT.out (decide_eq_true ⟨h1, h2⟩))
          go_wp2
          go_quiet (fail)
          go_wp2
          go_roundw
          case rel => exact ⟨k + 1, by omega, by go_num, HN.out, _, rfl⟩
          case measure => simp [intOf]; omega
        · have hd2 : decide ((100 : Int) < x.vol.size + x.oth.size) = true := decide_eq_true (by omega)
          have HN := Lib.hid (few_no HX.out (decide_eq_false (by omega)))
          go_wp2
          go_quiet (fail)
          go_wp2
          go_ret
          exact ⟨ret_bool HN.out.symm, below_drewN (below_drewN (Below.refl _ _) _) _⟩
      · have hd : decide ((40 : Int) < x.bs.length) = true := decide_eq_true (by omega)
        have HN := Lib.hid (few_no HX.out (decide_eq_false (by omega)))
        go_wp2
        go_quiet (fail)
        go_wp2
        go_ret
        exact ⟨ret_bool HN.out.symm, below_drewN (below_drewN (Below.refl _ _) _) _⟩
    · have HE := Lib.hid (show fewB ls = decide (ls.length ≤ 14) by
        have := HT.out
        rw [List.take_of_length_le (by omega)] at this
        simp [fewB, this])
      go_wp2
      go_ret
      exact ⟨ret_bool (by rw [HE.out]; exact decide_eq_decide.2 (by omega)), below_drewN (Below.refl _ _) _⟩

set_option maxHeartbeats 1000000 in
set_option maxRecDepth 100000 in
theorem few_any (la : Option Addr) (lc : Nat) (ls : List Cmd) (w : World) (h : Cmds w la ls) (hm : (ls.length : Int) ≤ 17592186044416) :
    Calls Tryd.prog 21 #[.slice la ls.length lc] w fun e w' => e = .returned (.bool (fewB ls)) ∧ Below w.heap.size w w' := by
  by_cases hp : 0 < ls.length
  · exact few_ne la lc ls w hp h hm
  · have e : ls = [] := List.eq_nil_of_length_eq_zero (by omega)
    clear h hm hp
    subst e
    go_enter Tryd.func21, Tryd.ntmps21
    go_wp2
    refine wp_loop_rounds 1 ?_
    rw [rounds_succ]
    go_wp2
    go_ret
    exact ⟨ret_bool rfl, Below.refl _ _⟩
end Go.Proofs.YtfbafjlhdbjgoaaDoor
