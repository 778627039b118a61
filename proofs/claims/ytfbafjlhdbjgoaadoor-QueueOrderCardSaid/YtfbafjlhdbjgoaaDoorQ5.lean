/- Eligible of the queue. -/
import Derived.Test.YtfbafjlhdbjgoaaDoorQ4
namespace Go.Proofs.YtfbafjlhdbjgoaaDoor
set_option linter.unusedVariables false
set_option linter.unusedSimpArgs false
open Go.RowKit Go.Sort
set_option maxRecDepth 100000

set_option maxHeartbeats 2000000 in
theorem closure63 {w : World} {q m1 m2 n : Nat} {tv : Value} {its : List QItem} (h : QAt w q m1 m2 n tv its) {g gt : Nat} (x y : QItem) (hg : w.cell? ⟨g, 0, none⟩ = some (.pointer (some ⟨q, 0, none⟩))) (ht : w.cell? ⟨gt, 0, none⟩ = some (.int .i64 y.1.tag)) (hx : x ∈ its) (hy : y ∈ its) :
    Calls Tryd.prog 63 #[.int .i64 x.1.tag, .pointer (some ⟨g, 0, none⟩), .pointer (some ⟨gt, 0, none⟩)] w fun e w' => e = .returned (.bool (beforeB x.1 y.1)) ∧ RowKit.Below w.heap.size w w' := by
  have g0 := cell_regrown hg
  have g1 := cell_regrown ht
  have g2 := cell_regrown h.q1
  have lx : ∀ d os, (Instr.lookup 65 (.map (some m1)) (.int .i64 x.1.tag) false).run Tryd.prog (grow (redrawn w d) os) = .ok x.1.val (grow (redrawn w d) os) := fun d os => by
    have := (h.grow (below_regrown w d os)).cm.look1 (t := 65) (e := 24) Tryd.underlying65 (zero24 _) (h.ok x hx).2
    rwa [cmdMap_of h.nod hx] at this
  have ly : ∀ d os, (Instr.lookup 65 (.map (some m1)) (.int .i64 y.1.tag) false).run Tryd.prog (grow (redrawn w d) os) = .ok y.1.val (grow (redrawn w d) os) := fun d os => by
    have := (h.grow (below_regrown w d os)).cm.look1 (t := 65) (e := 24) Tryd.underlying65 (zero24 _) (h.ok y hy).2
    rwa [cmdMap_of h.nod hy] at this
  have ox := (h.ok x hx).1
  have oy := (h.ok y hy).1
  have C19 := Lib.hid (reg_below (wr := w) fun W hW => before_any x.1 y.1 W (ox.mono hW) (oy.mono hW))
  clear h hg ht hx hy ox oy
  go_enter Tryd.func63, Tryd.ntmps63
  go_wp2_with fail
  refine wp_region_quiet_below (by kernel_rfl) (by kernel_rfl) ?_
  repeat (go_big_quiet_step ((go_at_call 19; exact C19.out _ _)))
  refine wpQuiet_nil ?_
  intro _ hw'
  obtain ⟨⟨d, os'⟩, hw''⟩ := hw'
  subst hw''
  have hB2 := below_regrown w d os'
  generalize grow (redrawn w d) os' = w2 at hB2 ⊢
  go_wp2
  go_ret
  exact ⟨rfl, hB2⟩

set_option maxHeartbeats 2000000 in
theorem indexF_any (a : Option Addr) (c : Nat) (g gt : Nat) (p : Int → Bool) (xs : List Int) (w : World) (hx : Ints w a xs) (hm : (xs.length : Int) ≤ 1000000)
    (hcall : ∀ (W : World) (x : Int), RowKit.Below w.heap.size w W → x ∈ xs → Calls Tryd.prog 63 #[.int .i64 x, .pointer (some ⟨g, 0, none⟩), .pointer (some ⟨gt, 0, none⟩)] W fun e w' => e = .returned (.bool (p x)) ∧ RowKit.Below W.heap.size W w') :
    Calls Tryd.prog 78 #[.slice a xs.length c, .func (.func 63) #[] #[.pointer (some ⟨g, 0, none⟩), .pointer (some ⟨gt, 0, none⟩)]] w fun e w' => (∃ r : Int, e = .returned (.int .i64 r) ∧ (0 ≤ r ↔ xs.any p = true)) ∧ RowKit.Below w.heap.size w w' := by
  have HCALL := Lib.hid hcall
  clear hcall
  by_cases hp : 0 < xs.length
  · obtain ⟨b, o, rfl, hcs⟩ := hx hp
    clear hx
    go_enter Tryd.func78, Tryd.ntmps78
    go_wp2
    go_loopg [5, 8] (xs.length) (fun g _ i wr => ∃ k, k ≤ xs.length ∧ g = xs.length - k ∧ i = .int .i64 (k : Nat) ∧ (xs.take k).any p = false ∧ RowKit.Below w.heap.size w wr)
    case atStart => exact ⟨0, Nat.zero_le _, by simp, rfl, by simp, RowKit.Below.refl _ _⟩
    case round =>
      obtain ⟨k, hk, rfl, rfl, hT, hB⟩ := hrel
      obtain ⟨wo, hwo⟩ : ∃ wo, wo = wr := ⟨_, rfl⟩
      subst hwo
      have HT := Lib.hid hT
      clear hT
      by_cases hkl : k < xs.length
      · obtain ⟨y, hy⟩ : ∃ y, xs[k]? = some y := ⟨_, List.getElem?_eq_getElem hkl⟩
        have gy := cell_keep hB (hcs k y hy)
        have HY := Lib.hid hy
        clear hcs hy
        go_wp2_with fail
        refine (HCALL.out _ y hB (List.mem_of_getElem? HY.out)).mono ?_
        rintro e w1 ⟨rfl, hB1⟩
        have hBn := hB.trans (hB1.mono hB.size)
        cases hpy : p y with
        | true =>
          have HM : Hid (xs.any p = true) := List.any_eq_true.2 ⟨y, List.mem_of_getElem? HY.out, hpy⟩
          clear hpy
          go_wp2
          go_ret
          exact ⟨⟨(k : Int), rfl, ⟨fun _ => HM.out, fun _ => by omega⟩⟩, hBn⟩
        | false =>
          have HN : Hid ((xs.take (k + 1)).any p = false) := by
            show (xs.take (k + 1)).any p = false
            rw [List.take_add_one, HY.out, List.any_append, HT.out]
            simp [hpy]
          clear hpy
          go_wp2
          go_roundg (xs.length - (k + 1))
          case measure => omega
          case rel => exact ⟨k + 1, by omega, rfl, by go_num, HN.out, hBn⟩
      · have HN : Hid (xs.any p = false) := by
          show xs.any p = false
          have := HT.out
          rwa [List.take_of_length_le (by omega)] at this
        clear hcs
        go_wp2
        go_ret
        exact ⟨⟨-1, rfl, ⟨fun h => absurd h (by decide), fun h => by rw [HN.out] at h; cases h⟩⟩, hB⟩
  · obtain rfl : xs = [] := List.eq_nil_of_length_eq_zero (by omega)
    clear hx hm hp
    go_enter Tryd.func78, Tryd.ntmps78
    go_wp2
    refine wp_loop_rounds 1 ?_
    rw [rounds_succ]
    go_wp2
    go_ret
    exact ⟨⟨-1, rfl, by simp⟩, RowKit.Below.refl _ _⟩
theorem containsF_any (a : Option Addr) (c : Nat) (g gt : Nat) (p : Int → Bool) (xs : List Int) (w : World) (hx : Ints w a xs) (hm : (xs.length : Int) ≤ 1000000)
    (hcall : ∀ (W : World) (x : Int), RowKit.Below w.heap.size w W → x ∈ xs → Calls Tryd.prog 63 #[.int .i64 x, .pointer (some ⟨g, 0, none⟩), .pointer (some ⟨gt, 0, none⟩)] W fun e w' => e = .returned (.bool (p x)) ∧ RowKit.Below W.heap.size W w') :
    Calls Tryd.prog 62 #[.slice a xs.length c, .func (.func 63) #[] #[.pointer (some ⟨g, 0, none⟩), .pointer (some ⟨gt, 0, none⟩)]] w fun e w' => e = .returned (.bool (xs.any p)) ∧ RowKit.Below w.heap.size w w' := by
  have CI := indexF_any a c g gt p xs w hx hm hcall
  clear hx hcall
  go_enter Tryd.func62, Tryd.ntmps62
  go_wp2_with fail
  refine CI.mono ?_
  rintro e w1 ⟨⟨r, rfl, hr⟩, hB⟩
  have HM : Hid (decide (0 ≤ r) = xs.any p) := by
    show decide (0 ≤ r) = xs.any p
    rw [Bool.eq_iff_iff]
    simpa using hr
  clear hr CI
  go_wp2_with fail
  go_ret
  exact ⟨ret_bool HM.out, hB⟩
end Go.Proofs.YtfbafjlhdbjgoaaDoor
