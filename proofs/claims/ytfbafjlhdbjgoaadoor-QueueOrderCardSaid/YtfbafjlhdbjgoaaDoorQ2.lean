/- known, Index, Contains. -/
import Derived.Test.YtfbafjlhdbjgoaaDoorQ1
namespace Go.Proofs.YtfbafjlhdbjgoaaDoor
set_option linter.unusedVariables false
set_option linter.unusedSimpArgs false
open Go.RowKit Go.Sort
set_option maxRecDepth 100000

/-- A slice of numbers that the call itself makes, from block B on. -/
structure OwnI (B : Nat) (w3 : World) (out : Value) (xs : List Int) (wr : World) : Prop where
  own : wr.ownsRow B 3 1 out xs.length (xs.map (Value.int .i64))
  bel : RowKit.Below B w3 wr
  size : B ≤ w3.heap.size
theorem OwnI.start (w3 : World) : OwnI w3.heap.size w3 (.slice none 0 0) [] w3 := ⟨World.ownsRow_nil _ _ _ _, RowKit.Below.refl _ _, Nat.le_refl _⟩
theorem OwnI.add {B : Nat} {w3 : World} {out v' : Value} {xs : List Int} {x : Int} {wr w2 : World} {o : Obj} (h : OwnI B w3 out xs wr)
    (hown' : w2.ownsRow B 3 1 v' (xs.length + 1) (xs.map (Value.int .i64) ++ [.int .i64 x])) (hgrow : (wr.alloc o).grownBy w2 out.ownBlock) : OwnI B w3 v' (xs ++ [x]) w2 := by
  have hs : B ≤ wr.heap.size := Nat.le_trans h.size h.bel.size
  refine ⟨by simpa using hown', ?_, h.size⟩
  exact (h.bel.alloc hs o).grown hgrow (by simp; omega) (fun j hj => (h.own.lt j hj).1)

def hasTag (its : List QItem) (k : Int) : Bool := its.any fun x => x.1.tag == k
theorem find_hasTag (its : List QItem) (k : Int) : (its.find? fun x => x.1.tag == k).isSome = hasTag its k := by
  unfold hasTag
  rw [Bool.eq_iff_iff, List.find?_isSome, List.any_eq_true]
theorem ret_int {a b : Int} (h : a = b) : Ending.returned (.int .i64 a) = Ending.returned (.int .i64 b) := by rw [h]
def knownE (its : List QItem) (k : Int) : Int := if hasTag its k then 0 else 9

set_option maxHeartbeats 1000000 in
theorem known_any {w : World} {q m1 m2 n : Nat} {tv : Value} {its : List QItem} (h : QAt w q m1 m2 n tv its) {tag : Int} (hk : (Lit.int .i64 tag).wf = true) :
    Calls Tryd.prog 64 #[.pointer (some ⟨q, 0, none⟩), .int .i64 tag] w fun e w' => e = .returned (.int .i64 (knownE its tag)) ∧ RowKit.Below w.heap.size w w' := by
  have q1 := h.q1
  have hl := h.cm.look2 (t := 65) (e := 24) Tryd.underlying65 (zero24 w) hk
  have hh := find_hasTag its tag
  unfold cmdMap at hl
  cases hf : its.find? (fun x => x.1.tag == tag) with
  | none =>
    rw [hf] at hl hh
    have HE : Hid (knownE its tag = 9) := by show knownE its tag = 9; rw [knownE, ← hh]; rfl
    simp only [Option.map_none, Option.getD_none, Option.isSome_none] at hl
    clear h hf hh
    go_enter Tryd.func64, Tryd.ntmps64
    go_wp2
    go_ret
    exact ⟨ret_int HE.out.symm, below_box _ _ _⟩
  | some x =>
    rw [hf] at hl hh
    have HE : Hid (knownE its tag = 0) := by show knownE its tag = 0; rw [knownE, ← hh]; rfl
    simp only [Option.map_some, Option.getD_some, Option.isSome_some] at hl
    clear h hf hh
    go_enter Tryd.func64, Tryd.ntmps64
    go_wp2
    go_ret
    exact ⟨ret_int HE.out.symm, below_box _ _ _⟩

theorem knownNil_any (tag : Int) (w : World) : Calls Tryd.prog 64 #[.pointer none, .int .i64 tag] w fun e w' => e = .returned (.int .i64 8) ∧ RowKit.Below w.heap.size w w' := by
  go_enter Tryd.func64, Tryd.ntmps64
  go_wp2
  go_ret
  exact ⟨rfl, RowKit.Below.refl _ _⟩

/-- Where x stands in a list of numbers. -/
def idxOf (xs : List Int) (x : Int) : Int := match xs.findIdx? (· == x) with
  | some i => (i : Int)
  | none => -1
theorem take_none_succ {xs : List Int} {x y : Int} {k : Nat} (hy : xs[k]? = some y) (h : x ∉ xs.take k) (hne : y ≠ x) : x ∉ xs.take (k + 1) := by
  rw [List.take_add_one, hy]
  simp [h]
  exact fun e => hne e.symm
set_option maxHeartbeats 1000000 in
theorem index_ne (a : Option Addr) (c : Nat) (xs : List Int) (x : Int) (w : World) (hp : 0 < xs.length) (hx : Ints w a xs) (hm : (xs.length : Int) ≤ 17592186044416) :
    Calls Tryd.prog 84 #[.slice a xs.length c, .int .i64 x] w fun e w' => (∃ r : Int, e = .returned (.int .i64 r) ∧ (0 ≤ r ↔ x ∈ xs)) ∧ RowKit.Below w.heap.size w w' := by
  obtain ⟨b, o, rfl, hcs⟩ := hx hp
  clear hx
  go_enter Tryd.func84, Tryd.ntmps84
  go_wp2
  go_loopg [5, 8] (xs.length) (fun g _ i wr => ∃ k, k ≤ xs.length ∧ g = xs.length - k ∧ i = .int .i64 (k : Nat) ∧ x ∉ xs.take k ∧ RowKit.Below w.heap.size w wr)
  case atStart => exact ⟨0, Nat.zero_le _, by simp, rfl, by simp, RowKit.Below.refl _ _⟩
  case round =>
    obtain ⟨k, hk, rfl, rfl, hT, hB⟩ := hrel
    have HT := Lib.hid hT
    clear hT
    by_cases hkl : k < xs.length
    · obtain ⟨y, hy⟩ : ∃ y, xs[k]? = some y := ⟨_, List.getElem?_eq_getElem hkl⟩
      have gy := cell_keep hB (hcs k y hy)
      by_cases hyx : x = y
      · subst hyx
        have HM : Hid (x ∈ xs) := List.mem_of_getElem? hy
        clear hcs hy
        go_wp2
        go_ret
        exact ⟨⟨(k : Int), rfl, ⟨fun _ => HM.out, fun _ => by omega⟩⟩, hB⟩
      · have HN := Lib.hid (take_none_succ hy HT.out (fun e => hyx e.symm))
        have hne : (x == y) = false := by simpa using hyx
        clear hcs hy hyx
        go_wp2
        go_roundg (xs.length - (k + 1))
        case measure => omega
        case rel => exact ⟨k + 1, by omega, rfl, by go_num, HN.out, hB⟩
    · have HN : Hid (x ∉ xs) := by
        show x ∉ xs
        have := HT.out
        rwa [List.take_of_length_le (by omega)] at this
      clear hcs
      go_wp2
      go_ret
      exact ⟨⟨-1, rfl, ⟨fun h => absurd h (by decide), fun h => absurd h HN.out⟩⟩, hB⟩
theorem contains_any (a : Option Addr) (c : Nat) (xs : List Int) (x : Int) (w : World) (hx : Ints w a xs) (hm : (xs.length : Int) ≤ 17592186044416) :
    Calls Tryd.prog 67 #[.slice a xs.length c, .int .i64 x] w fun e w' => e = .returned (.bool (decide (x ∈ xs))) ∧ RowKit.Below w.heap.size w w' := by
  have CI : Calls Tryd.prog 84 #[.slice a xs.length c, .int .i64 x] w fun e w' => (∃ r : Int, e = .returned (.int .i64 r) ∧ (0 ≤ r ↔ x ∈ xs)) ∧ RowKit.Below w.heap.size w w' := by
    by_cases hp : 0 < xs.length
    · exact index_ne a c xs x w hp hx hm
    · obtain rfl : xs = [] := List.eq_nil_of_length_eq_zero (by omega)
      clear hx hm hp
      go_enter Tryd.func84, Tryd.ntmps84
      go_wp2
      refine wp_loop_rounds 1 ?_
      rw [rounds_succ]
      go_wp2
      go_ret
      exact ⟨⟨-1, rfl, by simp⟩, RowKit.Below.refl _ _⟩
  clear hx
  go_enter Tryd.func67, Tryd.ntmps67
  go_wp2_with fail
  refine CI.mono ?_
  rintro e w1 ⟨⟨r, rfl, hr⟩, hB⟩
  have HR := Lib.hid hr
  clear hr CI
  have HM : Hid (decide (0 ≤ r) = decide (x ∈ xs)) := decide_eq_decide.2 HR.out
  go_wp2_with fail
  go_ret
  exact ⟨ret_bool HM.out, hB⟩
end Go.Proofs.YtfbafjlhdbjgoaaDoor
