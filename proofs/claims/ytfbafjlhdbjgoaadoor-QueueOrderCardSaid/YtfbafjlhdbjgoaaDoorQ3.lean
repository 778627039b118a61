/- filter. -/
import Derived.Test.YtfbafjlhdbjgoaaDoorQ2
namespace Go.Proofs.YtfbafjlhdbjgoaaDoor
set_option linter.unusedVariables false
set_option linter.unusedSimpArgs false
open Go.RowKit Go.Sort
set_option maxRecDepth 100000

def filtTo (p : Nat → Int → Bool) (xs : List Int) (k : Nat) : List Int := ((List.range k).filter fun i => p i (xs.getD i 0)).map fun i => xs.getD i 0
theorem filtTo_yes {p : Nat → Int → Bool} {xs : List Int} {k : Nat} {x : Int} (hx : xs[k]? = some x) (h : p k x = true) : filtTo p xs (k + 1) = filtTo p xs k ++ [x] := by
  have e : xs.getD k 0 = x := getD_of hx
  have e2 : xs[k]?.getD 0 = x := by simp [hx]
  simp [filtTo, List.range_succ, e2, h]
theorem filtTo_no {p : Nat → Int → Bool} {xs : List Int} {k : Nat} {x : Int} (hx : xs[k]? = some x) (h : p k x = false) : filtTo p xs (k + 1) = filtTo p xs k := by
  have e2 : xs[k]?.getD 0 = x := by simp [hx]
  simp [filtTo, List.range_succ, e2, h]
theorem filtTo_len (p : Nat → Int → Bool) (xs : List Int) (k : Nat) : (filtTo p xs k).length ≤ k := by
  unfold filtTo
  rw [List.length_map]
  have := List.length_filter_le (fun i => p i (xs.getD i 0)) (List.range k)
  simpa using this

set_option maxHeartbeats 2000000 in
theorem filter59 (p : Nat → Int → Bool) (q : Nat) (a : Option Addr) (c : Nat) (xs : List Int) (w : World) (hq : w.cell? ⟨q, 0, none⟩ = some (.slice a xs.length c)) (hx : Ints w a xs) (hm : (xs.length : Int) ≤ 1000000)
    (hcall : ∀ (W : World) (i : Nat) (x : Int), RowKit.Below w.heap.size w W → xs[i]? = some x → Calls Tryd.prog 59 #[.int .i64 (i : Nat), .int .i64 x] W fun e w' => e = .returned (.bool (p i x)) ∧ RowKit.Below W.heap.size W w') :
    Calls Tryd.prog 58 #[.pointer (some ⟨q, 0, none⟩), .func (.func 59) #[] #[]] w fun e w' => RetInts (filtTo p xs xs.length) w e w' := by
  obtain ⟨i0, hi, hz0, hz1, hz2⟩ := info_parts info3
  have HCALL := Lib.hid hcall
  clear hcall
  by_cases hp : 0 < xs.length
  · obtain ⟨b, o, rfl, hcs⟩ := hx hp
    clear hx
    go_enter Tryd.func58, Tryd.ntmps58
    go_wp2
    go_loopg [5, 6, 7, 15] (xs.length) (fun g out _ _ i wr => ∃ k, k ≤ xs.length ∧ g = xs.length - k ∧ i = .int .i64 (k : Nat) ∧ OwnI w.heap.size w out (filtTo p xs k) wr)
    case atStart => exact ⟨0, Nat.zero_le _, by simp, rfl, OwnI.start w⟩
    case round =>
      obtain ⟨k, hk, rfl, rfl, hown⟩ := hrel
      obtain ⟨wo, hwo⟩ : ∃ wo, wo = wr := ⟨_, rfl⟩
      subst hwo
      by_cases hkl : k < xs.length
      · obtain ⟨x, hx⟩ : ∃ x, xs[k]? = some x := ⟨_, List.getElem?_eq_getElem hkl⟩
        have gx := cell_keep hown.bel (hcs k x hx)
        have HX := Lib.hid hx
        have hlen := filtTo_len p xs k
        clear hcs hx
        go_wp2_with fail
        refine (HCALL.out _ k x hown.bel HX.out).mono ?_
        rintro e w1 ⟨rfl, hB1⟩
        have hown1 : OwnI w.heap.size w u5 (filtTo p xs k) w1 := ⟨own_below hown.own hB1, hown.bel.trans (hB1.mono hown.bel.size), hown.size⟩
        cases hpx : p k x with
        | true =>
          have HN := Lib.hid (filtTo_yes HX.out hpx)
          clear hpx hown
          go_wp2_with (at_builtin; refine wpList_append_own _ rfl _ _ 31 rfl w.heap.size 3 i0 (.int .i64 0) 1 8 Tryd.underlying31 hi hz0 hz1 hz2 rfl (by decide) _ _ _ rfl (hown1.own.alloc _) ⟨w1.heap.size, 0, none⟩ 1 1 [.int .i64 x] rfl rfl ?c1 ?c2 ?c3 ?c4 ?c5 ?_)
          case c1 => exact cell_new_one _ _ _
          case c2 => intro u hu; simp at hu; subst hu; rfl
          case c3 => unfold maxLen; omega
          case c4 => omega
          case c5 => have := hown1.bel.size; simp; omega
          intro v' w4 hown' hgrow' _
          have hR := hown1.add hown' hgrow'
          clear hown' hgrow'
          go_wp2
          go_roundg (xs.length - (k + 1))
          case measure => omega
          case rel => exact ⟨k + 1, by omega, rfl, by go_num, by rw [HN.out]; exact hR⟩
        | false =>
          have HN := Lib.hid (filtTo_no HX.out hpx)
          clear hpx hown
          go_wp2
          go_roundg (xs.length - (k + 1))
          case measure => omega
          case rel => exact ⟨k + 1, by omega, rfl, by go_num, by rw [HN.out]; exact hown1⟩
      · obtain rfl : k = xs.length := by omega
        obtain ⟨a', c', rfl, hI⟩ := ownsInts hown.own
        have hb := hown.bel
        clear hcs hown
        go_wp2
        go_ret
        exact ⟨a', c', rfl, hI, hb⟩
  · obtain rfl : xs = [] := List.eq_nil_of_length_eq_zero (by omega)
    clear hx hm hp
    go_enter Tryd.func58, Tryd.ntmps58
    go_wp2
    refine wp_loop_rounds 1 ?_
    rw [rounds_succ]
    go_wp2
    go_ret
    exact ⟨none, 0, rfl, fun h => absurd h (by simp [filtTo]), RowKit.Below.refl _ _⟩

set_option maxHeartbeats 2000000 in
theorem filter60 (g : Addr) (p : Nat → Int → Bool) (q : Nat) (a : Option Addr) (c : Nat) (xs : List Int) (w : World) (hq : w.cell? ⟨q, 0, none⟩ = some (.slice a xs.length c)) (hx : Ints w a xs) (hm : (xs.length : Int) ≤ 1000000)
    (hcall : ∀ (W : World) (i : Nat) (x : Int), RowKit.Below w.heap.size w W → xs[i]? = some x → Calls Tryd.prog 60 #[.int .i64 (i : Nat), .int .i64 x, .pointer (some g)] W fun e w' => e = .returned (.bool (p i x)) ∧ RowKit.Below W.heap.size W w') :
    Calls Tryd.prog 58 #[.pointer (some ⟨q, 0, none⟩), .func (.func 60) #[] #[.pointer (some g)]] w fun e w' => RetInts (filtTo p xs xs.length) w e w' := by
  obtain ⟨i0, hi, hz0, hz1, hz2⟩ := info_parts info3
  have HCALL := Lib.hid hcall
  clear hcall
  by_cases hp : 0 < xs.length
  · obtain ⟨b, o, rfl, hcs⟩ := hx hp
    clear hx
    go_enter Tryd.func58, Tryd.ntmps58
    go_wp2
    go_loopg [5, 6, 7, 15] (xs.length) (fun g out _ _ i wr => ∃ k, k ≤ xs.length ∧ g = xs.length - k ∧ i = .int .i64 (k : Nat) ∧ OwnI w.heap.size w out (filtTo p xs k) wr)
    case atStart => exact ⟨0, Nat.zero_le _, by simp, rfl, OwnI.start w⟩
    case round =>
      obtain ⟨k, hk, rfl, rfl, hown⟩ := hrel
      obtain ⟨wo, hwo⟩ : ∃ wo, wo = wr := ⟨_, rfl⟩
      subst hwo
      by_cases hkl : k < xs.length
      · obtain ⟨x, hx⟩ : ∃ x, xs[k]? = some x := ⟨_, List.getElem?_eq_getElem hkl⟩
        have gx := cell_keep hown.bel (hcs k x hx)
        have HX := Lib.hid hx
        have hlen := filtTo_len p xs k
        clear hcs hx
        go_wp2_with fail
        refine (HCALL.out _ k x hown.bel HX.out).mono ?_
        rintro e w1 ⟨rfl, hB1⟩
        have hown1 : OwnI w.heap.size w u5 (filtTo p xs k) w1 := ⟨own_below hown.own hB1, hown.bel.trans (hB1.mono hown.bel.size), hown.size⟩
        cases hpx : p k x with
        | true =>
          have HN := Lib.hid (filtTo_yes HX.out hpx)
          clear hpx hown
          go_wp2_with (at_builtin; refine wpList_append_own _ rfl _ _ 31 rfl w.heap.size 3 i0 (.int .i64 0) 1 8 Tryd.underlying31 hi hz0 hz1 hz2 rfl (by decide) _ _ _ rfl (hown1.own.alloc _) ⟨w1.heap.size, 0, none⟩ 1 1 [.int .i64 x] rfl rfl ?c1 ?c2 ?c3 ?c4 ?c5 ?_)
          case c1 => exact cell_new_one _ _ _
          case c2 => intro u hu; simp at hu; subst hu; rfl
          case c3 => unfold maxLen; omega
          case c4 => omega
          case c5 => have := hown1.bel.size; simp; omega
          intro v' w4 hown' hgrow' _
          have hR := hown1.add hown' hgrow'
          clear hown' hgrow'
          go_wp2
          go_roundg (xs.length - (k + 1))
          case measure => omega
          case rel => exact ⟨k + 1, by omega, rfl, by go_num, by rw [HN.out]; exact hR⟩
        | false =>
          have HN := Lib.hid (filtTo_no HX.out hpx)
          clear hpx hown
          go_wp2
          go_roundg (xs.length - (k + 1))
          case measure => omega
          case rel => exact ⟨k + 1, by omega, rfl, by go_num, by rw [HN.out]; exact hown1⟩
      · obtain rfl : k = xs.length := by omega
        obtain ⟨a', c', rfl, hI⟩ := ownsInts hown.own
        have hb := hown.bel
        clear hcs hown
        go_wp2
        go_ret
        exact ⟨a', c', rfl, hI, hb⟩
  · obtain rfl : xs = [] := List.eq_nil_of_length_eq_zero (by omega)
    clear hx hm hp
    go_enter Tryd.func58, Tryd.ntmps58
    go_wp2
    refine wp_loop_rounds 1 ?_
    rw [rounds_succ]
    go_wp2
    go_ret
    exact ⟨none, 0, rfl, fun h => absurd h (by simp [filtTo]), RowKit.Below.refl _ _⟩

set_option maxHeartbeats 2000000 in
theorem filter61 (g : Addr) (p : Nat → Int → Bool) (q : Nat) (a : Option Addr) (c : Nat) (xs : List Int) (w : World) (hq : w.cell? ⟨q, 0, none⟩ = some (.slice a xs.length c)) (hx : Ints w a xs) (hm : (xs.length : Int) ≤ 1000000)
    (hcall : ∀ (W : World) (i : Nat) (x : Int), RowKit.Below w.heap.size w W → xs[i]? = some x → Calls Tryd.prog 61 #[.int .i64 (i : Nat), .int .i64 x, .pointer (some g)] W fun e w' => e = .returned (.bool (p i x)) ∧ RowKit.Below W.heap.size W w') :
    Calls Tryd.prog 58 #[.pointer (some ⟨q, 0, none⟩), .func (.func 61) #[] #[.pointer (some g)]] w fun e w' => RetInts (filtTo p xs xs.length) w e w' := by
  obtain ⟨i0, hi, hz0, hz1, hz2⟩ := info_parts info3
  have HCALL := Lib.hid hcall
  clear hcall
  by_cases hp : 0 < xs.length
  · obtain ⟨b, o, rfl, hcs⟩ := hx hp
    clear hx
    go_enter Tryd.func58, Tryd.ntmps58
    go_wp2
    go_loopg [5, 6, 7, 15] (xs.length) (fun g out _ _ i wr => ∃ k, k ≤ xs.length ∧ g = xs.length - k ∧ i = .int .i64 (k : Nat) ∧ OwnI w.heap.size w out (filtTo p xs k) wr)
    case atStart => exact ⟨0, Nat.zero_le _, by simp, rfl, OwnI.start w⟩
    case round =>
      obtain ⟨k, hk, rfl, rfl, hown⟩ := hrel
      obtain ⟨wo, hwo⟩ : ∃ wo, wo = wr := ⟨_, rfl⟩
      subst hwo
      by_cases hkl : k < xs.length
      · obtain ⟨x, hx⟩ : ∃ x, xs[k]? = some x := ⟨_, List.getElem?_eq_getElem hkl⟩
        have gx := cell_keep hown.bel (hcs k x hx)
        have HX := Lib.hid hx
        have hlen := filtTo_len p xs k
        clear hcs hx
        go_wp2_with fail
        refine (HCALL.out _ k x hown.bel HX.out).mono ?_
        rintro e w1 ⟨rfl, hB1⟩
        have hown1 : OwnI w.heap.size w u5 (filtTo p xs k) w1 := ⟨own_below hown.own hB1, hown.bel.trans (hB1.mono hown.bel.size), hown.size⟩
        cases hpx : p k x with
        | true =>
          have HN := Lib.hid (filtTo_yes HX.out hpx)
          clear hpx hown
          go_wp2_with (at_builtin; refine wpList_append_own _ rfl _ _ 31 rfl w.heap.size 3 i0 (.int .i64 0) 1 8 Tryd.underlying31 hi hz0 hz1 hz2 rfl (by decide) _ _ _ rfl (hown1.own.alloc _) ⟨w1.heap.size, 0, none⟩ 1 1 [.int .i64 x] rfl rfl ?c1 ?c2 ?c3 ?c4 ?c5 ?_)
          case c1 => exact cell_new_one _ _ _
          case c2 => intro u hu; simp at hu; subst hu; rfl
          case c3 => unfold maxLen; omega
          case c4 => omega
          case c5 => have := hown1.bel.size; simp; omega
          intro v' w4 hown' hgrow' _
          have hR := hown1.add hown' hgrow'
          clear hown' hgrow'
          go_wp2
          go_roundg (xs.length - (k + 1))
          case measure => omega
          case rel => exact ⟨k + 1, by omega, rfl, by go_num, by rw [HN.out]; exact hR⟩
        | false =>
          have HN := Lib.hid (filtTo_no HX.out hpx)
          clear hpx hown
          go_wp2
          go_roundg (xs.length - (k + 1))
          case measure => omega
          case rel => exact ⟨k + 1, by omega, rfl, by go_num, by rw [HN.out]; exact hown1⟩
      · obtain rfl : k = xs.length := by omega
        obtain ⟨a', c', rfl, hI⟩ := ownsInts hown.own
        have hb := hown.bel
        clear hcs hown
        go_wp2
        go_ret
        exact ⟨a', c', rfl, hI, hb⟩
  · obtain rfl : xs = [] := List.eq_nil_of_length_eq_zero (by omega)
    clear hx hm hp
    go_enter Tryd.func58, Tryd.ntmps58
    go_wp2
    refine wp_loop_rounds 1 ?_
    rw [rounds_succ]
    go_wp2
    go_ret
    exact ⟨none, 0, rfl, fun h => absurd h (by simp [filtTo]), RowKit.Below.refl _ _⟩

set_option maxHeartbeats 2000000 in
theorem filter85 (g : Addr) (p : Nat → Int → Bool) (q : Nat) (a : Option Addr) (c : Nat) (xs : List Int) (w : World) (hq : w.cell? ⟨q, 0, none⟩ = some (.slice a xs.length c)) (hx : Ints w a xs) (hm : (xs.length : Int) ≤ 1000000)
    (hcall : ∀ (W : World) (i : Nat) (x : Int), RowKit.Below w.heap.size w W → xs[i]? = some x → Calls Tryd.prog 85 #[.int .i64 (i : Nat), .int .i64 x, .pointer (some g)] W fun e w' => e = .returned (.bool (p i x)) ∧ RowKit.Below W.heap.size W w') :
    Calls Tryd.prog 58 #[.pointer (some ⟨q, 0, none⟩), .func (.func 85) #[] #[.pointer (some g)]] w fun e w' => RetInts (filtTo p xs xs.length) w e w' := by
  obtain ⟨i0, hi, hz0, hz1, hz2⟩ := info_parts info3
  have HCALL := Lib.hid hcall
  clear hcall
  by_cases hp : 0 < xs.length
  · obtain ⟨b, o, rfl, hcs⟩ := hx hp
    clear hx
    go_enter Tryd.func58, Tryd.ntmps58
    go_wp2
    go_loopg [5, 6, 7, 15] (xs.length) (fun g out _ _ i wr => ∃ k, k ≤ xs.length ∧ g = xs.length - k ∧ i = .int .i64 (k : Nat) ∧ OwnI w.heap.size w out (filtTo p xs k) wr)
    case atStart => exact ⟨0, Nat.zero_le _, by simp, rfl, OwnI.start w⟩
    case round =>
      obtain ⟨k, hk, rfl, rfl, hown⟩ := hrel
      obtain ⟨wo, hwo⟩ : ∃ wo, wo = wr := ⟨_, rfl⟩
      subst hwo
      by_cases hkl : k < xs.length
      · obtain ⟨x, hx⟩ : ∃ x, xs[k]? = some x := ⟨_, List.getElem?_eq_getElem hkl⟩
        have gx := cell_keep hown.bel (hcs k x hx)
        have HX := Lib.hid hx
        have hlen := filtTo_len p xs k
        clear hcs hx
        go_wp2_with fail
        refine (HCALL.out _ k x hown.bel HX.out).mono ?_
        rintro e w1 ⟨rfl, hB1⟩
        have hown1 : OwnI w.heap.size w u5 (filtTo p xs k) w1 := ⟨own_below hown.own hB1, hown.bel.trans (hB1.mono hown.bel.size), hown.size⟩
        cases hpx : p k x with
        | true =>
          have HN := Lib.hid (filtTo_yes HX.out hpx)
          clear hpx hown
          go_wp2_with (at_builtin; refine wpList_append_own _ rfl _ _ 31 rfl w.heap.size 3 i0 (.int .i64 0) 1 8 Tryd.underlying31 hi hz0 hz1 hz2 rfl (by decide) _ _ _ rfl (hown1.own.alloc _) ⟨w1.heap.size, 0, none⟩ 1 1 [.int .i64 x] rfl rfl ?c1 ?c2 ?c3 ?c4 ?c5 ?_)
          case c1 => exact cell_new_one _ _ _
          case c2 => intro u hu; simp at hu; subst hu; rfl
          case c3 => unfold maxLen; omega
          case c4 => omega
          case c5 => have := hown1.bel.size; simp; omega
          intro v' w4 hown' hgrow' _
          have hR := hown1.add hown' hgrow'
          clear hown' hgrow'
          go_wp2
          go_roundg (xs.length - (k + 1))
          case measure => omega
          case rel => exact ⟨k + 1, by omega, rfl, by go_num, by rw [HN.out]; exact hR⟩
        | false =>
          have HN := Lib.hid (filtTo_no HX.out hpx)
          clear hpx hown
          go_wp2
          go_roundg (xs.length - (k + 1))
          case measure => omega
          case rel => exact ⟨k + 1, by omega, rfl, by go_num, by rw [HN.out]; exact hown1⟩
      · obtain rfl : k = xs.length := by omega
        obtain ⟨a', c', rfl, hI⟩ := ownsInts hown.own
        have hb := hown.bel
        clear hcs hown
        go_wp2
        go_ret
        exact ⟨a', c', rfl, hI, hb⟩
  · obtain rfl : xs = [] := List.eq_nil_of_length_eq_zero (by omega)
    clear hx hm hp
    go_enter Tryd.func58, Tryd.ntmps58
    go_wp2
    refine wp_loop_rounds 1 ?_
    rw [rounds_succ]
    go_wp2
    go_ret
    exact ⟨none, 0, rfl, fun h => absurd h (by simp [filtTo]), RowKit.Below.refl _ _⟩

theorem filterNil (fv : Value) (w : World) : Calls Tryd.prog 58 #[.pointer none, fv] w fun e w' => e = .returned (.slice none 0 0) ∧ RowKit.Below w.heap.size w w' := by
  go_enter Tryd.func58, Tryd.ntmps58
  go_wp2
  go_ret
  exact ⟨rfl, RowKit.Below.refl _ _⟩
end Go.Proofs.YtfbafjlhdbjgoaaDoor
