/- The reference queue: its memory; find and eligible. -/
import Derived.Test.YtfbafjlhdbjgoaaDoorQ9
namespace Go.Proofs.YtfbafjlhdbjgoaaDoor
set_option linter.unusedVariables false
set_option linter.unusedSimpArgs false
open Go.RowKit Go.Sort
set_option maxRecDepth 100000

def itC (x : QItem) : List Value := [.int .i64 x.1.tag, .int .i64 x.1.kind, .int .i64 x.1.ord, .bool x.1.force, .string x.1.vol, .string x.1.oth, .int .i64 x.1.pos, .int .i64 x.1.len, .slice x.1.da x.1.bs.length x.1.dc, .bool x.2]
def itFlat (its : List QItem) : List Value := its.flatMap itC
theorem itC_len (x : QItem) : (itC x).length = 10 := rfl
theorem itFlat_len : ∀ its : List QItem, (itFlat its).length = its.length * 10
  | [] => rfl
  | x :: its => by
    have := itFlat_len its
    simp only [itFlat, List.flatMap_cons, List.length_append, List.length_cons] at *
    rw [this, itC_len]; omega
theorem itFlat_at : ∀ (its : List QItem) (i k : Nat) (x : QItem), its[i]? = some x → k < 10 → (itFlat its)[i * 10 + k]? = (itC x)[k]?
  | [], i, k, x, h, _ => by simp at h
  | y :: its, 0, k, x, h, hk => by
    have : y = x := by simpa using h
    subst this
    simp only [itFlat, List.flatMap_cons]
    rw [List.getElem?_append_left (by rw [itC_len]; omega)]
    simp
  | y :: its, i + 1, k, x, h, hk => by
    have ih := itFlat_at its i k x (by simpa using h) hk
    simp only [itFlat, List.flatMap_cons] at *
    rw [List.getElem?_append_right (by rw [itC_len]; omega), ← ih]
    congr 1
    rw [itC_len]; omega
theorem itFlat_app (a b : List QItem) : itFlat (a ++ b) = itFlat a ++ itFlat b := by simp [itFlat]
/-- The blocks that are the reference's own to write. -/
def RF (r : Nat) (sv : Value) (k : Nat) : Prop := k = r ∨ sv.ownBlock = some k
structure RAt (w : World) (r : Nat) (sv : Value) (its : List QItem) : Prop where
  box : w.heap[r]? = some (.cells #[sv] 42 (0, 0))
  row : w.ownsRow 0 77 10 sv its.length (itFlat its)
  sq : sv.ownBlock ≠ some r
  ok : ∀ x ∈ its, CmdOk w x.1 ∧ (Lit.int .i64 x.1.tag).wf = true
  apart : ∀ x ∈ its, ∀ b o, 0 < x.1.bs.length → x.1.da = some ⟨b, o, none⟩ → ¬ RF r sv b
  nod : (tagsOf its).Nodup
/-- The items, as they are read. -/
def ItemsAt (w : World) (a : Option Addr) (its : List QItem) : Prop :=
  0 < its.length → ∃ b o, a = some ⟨b, o, none⟩ ∧ ∀ i x, its[i]? = some x → BoxAt w b (o + i * 10) x.1 ∧ w.cell? ⟨b, o + i * 10 + 9, none⟩ = some (.bool x.2)
theorem RAt.items {w : World} {r : Nat} {sv : Value} {its : List QItem} (h : RAt w r sv its) : ∃ a c, sv = .slice a its.length c ∧ ItemsAt w a its := by
  obtain ⟨hl, hh | ⟨g, cap, cur, e, hb, hh, hc, hm, ht⟩⟩ := h.row
  · obtain ⟨e1, e2⟩ := hh
    have h0 : its.length = 0 := by rw [itFlat_len] at hl; have := itFlat_len its; rw [e2] at this; simp at this; omega
    rw [h0]
    exact ⟨none, 0, e1, fun hp => absurd hp (by omega)⟩
  · refine ⟨_, cap, e, fun _ => ⟨g, 0, rfl, fun i x hx => ?_⟩⟩
    have hi : i < its.length := (List.getElem?_eq_some_iff.1 hx).1
    have key : ∀ k, k < 10 → w.cell? ⟨g, 0 + i * 10 + k, none⟩ = (itC x)[k]? := fun k hk => by
      have := World.ownsRow.cellAt (w := w) (base := 0) (e := 77) (size := 10) (g := g) (n := its.length) (cap := cap) (xs := itFlat its) ⟨hl, .inr ⟨g, cap, cur, rfl, Nat.zero_le _, hh, hc, hm, ht⟩⟩ (i * 10 + k) (by omega)
      rw [show 0 + i * 10 + k = i * 10 + k by omega, this]
      exact itFlat_at its i k x hx hk
    exact ⟨⟨key 0 (by omega), key 1 (by omega), key 2 (by omega), key 3 (by omega), key 4 (by omega), key 5 (by omega), key 6 (by omega), key 7 (by omega), key 8 (by omega)⟩, key 9 (by omega)⟩
theorem RAt.r0 {w : World} {r : Nat} {sv : Value} {its : List QItem} (h : RAt w r sv its) : w.cell? ⟨r, 0, none⟩ = some sv := by
  rw [World.cell?, h.box]; rfl
theorem RAt.rlt {w : World} {r : Nat} {sv : Value} {its : List QItem} (h : RAt w r sv its) : r < w.heap.size := by
  rcases Nat.lt_or_ge r w.heap.size with hlt | hge
  · exact hlt
  · have := h.box; rw [Array.getElem?_eq_none hge] at this; cases this
theorem RAt.grow {w w' : World} {r : Nat} {sv : Value} {its : List QItem} (h : RAt w r sv its) (hb : RowKit.Below w.heap.size w w') : RAt w' r sv its :=
  ⟨(hb.block r h.rlt).trans h.box, own_below h.row hb, h.sq, fun x hx => ⟨(h.ok x hx).1.mono hb, (h.ok x hx).2⟩, h.apart, h.nod⟩
theorem ItemsAt.mono {w w' : World} {a : Option Addr} {its : List QItem} (h : ItemsAt w a its) (hb : RowKit.Below w.heap.size w w') : ItemsAt w' a its := fun hl => by
  obtain ⟨b, o, e, hc⟩ := h hl
  exact ⟨b, o, e, fun i x hx => ⟨(hc i x hx).1.mono hb, cell_keep hb (hc i x hx).2⟩⟩
theorem RAt.rows {w : World} {r : Nat} {sv : Value} {its : List QItem} (h : RAt w r sv its) {k : Nat} (hk : sv.ownBlock = some k) : k < w.heap.size := (h.row.lt k hk).2
theorem rf_lt {w : World} {r : Nat} {sv : Value} {its : List QItem} (h : RAt w r sv its) {k : Nat} (hk : RF r sv k) : k < w.heap.size := by
  rcases hk with rfl | e
  · exact h.rlt
  · exact h.rows e
theorem tagsOf_at {its : List QItem} {k : Nat} {y : QItem} (hy : its[k]? = some y) : (tagsOf its)[k]? = some y.1.tag := by unfold tagsOf; rw [List.getElem?_map, hy]; rfl
theorem idxOf_hit {xs : List Int} {x : Int} {k : Nat} (hx : xs[k]? = some x) (h : x ∉ xs.take k) : idxOf xs x = k := by
  have : xs.findIdx? (· == x) = some k := by
    obtain ⟨hk, hxk⟩ := List.getElem?_eq_some_iff.1 hx
    rw [List.findIdx?_eq_some_iff_getElem]
    refine ⟨hk, by simp [hxk], fun j hj => ?_⟩
    simp only [beq_iff_eq]
    intro e
    exact h (List.mem_of_getElem? (i := j) (by rw [List.getElem?_take, if_pos hj, List.getElem?_eq_getElem (by omega), e]))
  unfold idxOf
  rw [this]
theorem idxOf_no {xs : List Int} {x : Int} (h : x ∉ xs) : idxOf xs x = -1 := by
  have : xs.findIdx? (· == x) = none := by
    rw [List.findIdx?_eq_none_iff]
    intro y hy
    simp only [beq_eq_false_iff_ne]
    exact fun e => h (e ▸ hy)
  unfold idxOf
  rw [this]

set_option maxHeartbeats 2000000 in
theorem find_any {w : World} {r : Nat} {sv : Value} {its : List QItem} (h : RAt w r sv its) (tag : Int) (hm : its.length ≤ 1000000) :
    Calls Tryd.prog 72 #[.pointer (some ⟨r, 0, none⟩), .int .i64 tag] w fun e w' => e = .returned (.int .i64 (idxOf (tagsOf its) tag)) ∧ RowKit.Below w.heap.size w w' := by
  obtain ⟨a, c, rfl, hI⟩ := h.items
  have r0 := h.r0
  have hlen : (tagsOf its).length = its.length := tagsOf_len its
  have HL := Lib.hid hlen
  have HI := Lib.hid hI
  clear h hI hlen
  go_enter Tryd.func72, Tryd.ntmps72
  go_wp2
  go_loopg [5] (its.length) (fun g i wr => ∃ k, k ≤ its.length ∧ g = its.length - k ∧ i = .int .i64 (k : Nat) ∧ tag ∉ (tagsOf its).take k ∧ RowKit.Below w.heap.size w wr)
  case atStart => exact ⟨0, Nat.zero_le _, by simp, rfl, by simp, RowKit.Below.refl _ _⟩
  case round =>
    obtain ⟨k, hk, rfl, rfl, hT, hB⟩ := hrel
    have HT := Lib.hid hT
    have rr := cell_keep hB r0
    clear hT
    by_cases hkl : k < its.length
    · obtain ⟨y, hy⟩ : ∃ y, its[k]? = some y := ⟨_, List.getElem?_eq_getElem hkl⟩
      obtain ⟨b, o, rfl, hcs⟩ := HI.out (by omega)
      have g0 := cell_keep hB (hcs k y hy).1.1
      have HY := Lib.hid hy
      clear hcs hy
      by_cases hyx : y.1.tag = tag
      · have HE : Hid (idxOf (tagsOf its) tag = k) := idxOf_hit (by rw [tagsOf_at HY.out, hyx]) HT.out
        have heq : (y.1.tag == tag) = true := by simpa using hyx
        clear hyx
        go_wp2
        go_ret
        exact ⟨ret_int HE.out.symm, hB⟩
      · have HN := Lib.hid (take_none_succ (tagsOf_at HY.out) HT.out hyx)
        have heq : (y.1.tag == tag) = false := by simpa using hyx
        clear hyx
        go_wp2
        go_roundg (its.length - (k + 1))
        case measure => omega
        case rel => exact ⟨k + 1, by omega, rfl, by go_num, HN.out, hB⟩
    · have HN : Hid (idxOf (tagsOf its) tag = -1) := by
        refine idxOf_no ?_
        have := HT.out
        rwa [List.take_of_length_le (by rw [HL.out]; omega)] at this
      go_wp2
      go_ret
      exact ⟨ret_int HN.out.symm, hB⟩
end Go.Proofs.YtfbafjlhdbjgoaaDoor
