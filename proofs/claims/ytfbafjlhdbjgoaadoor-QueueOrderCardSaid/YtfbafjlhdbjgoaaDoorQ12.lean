/- awake of chapter 41. -/
import Derived.Test.YtfbafjlhdbjgoaaDoorQ11
namespace Go.Proofs.YtfbafjlhdbjgoaaDoor
set_option linter.unusedVariables false
set_option linter.unusedSimpArgs false
open Go.RowKit Go.Sort
set_option maxRecDepth 100000

theorem finish_any {w : World} {q m1 m2 n : Nat} {tv : Value} {its : List QItem} (h : QAt w q m1 m2 n tv its) {tag : Int} (hk : (Lit.int .i64 tag).wf = true) (hm : its.length ≤ 1000000) :
    Calls Tryd.prog 37 #[.pointer (some ⟨q, 0, none⟩), .int .i64 tag] w fun e w' => e = .returned (.int .i64 (removeE its tag true)) ∧ Turn (QF q m1 m2 tv) w w' ∧ (removeE its tag true ≠ 0 → QAt w' q m1 m2 n tv its) ∧
      (removeE its tag true = 0 → ∃ tv', QAt w' q m1 m2 n tv' (removed its tag) ∧ ∀ k, QF q m1 m2 tv' k → QF q m1 m2 tv k ∨ w.heap.size ≤ k) := by
  have CR := remove_any h true hk hm
  go_enter Tryd.func37, Tryd.ntmps37
  go_wp2_with fail
  refine CR.mono ?_
  rintro e w1 ⟨rfl, hp⟩
  have HP := Lib.hid hp
  clear CR hp h
  go_wp2
  go_ret
  exact ⟨rfl, HP.out⟩
theorem cancel_any {w : World} {q m1 m2 n : Nat} {tv : Value} {its : List QItem} (h : QAt w q m1 m2 n tv its) {tag : Int} (hk : (Lit.int .i64 tag).wf = true) (hm : its.length ≤ 1000000) :
    Calls Tryd.prog 38 #[.pointer (some ⟨q, 0, none⟩), .int .i64 tag] w fun e w' => e = .returned (.int .i64 (removeE its tag false)) ∧ Turn (QF q m1 m2 tv) w w' ∧ (removeE its tag false ≠ 0 → QAt w' q m1 m2 n tv its) ∧
      (removeE its tag false = 0 → ∃ tv', QAt w' q m1 m2 n tv' (removed its tag) ∧ ∀ k, QF q m1 m2 tv' k → QF q m1 m2 tv k ∨ w.heap.size ≤ k) := by
  have CR := remove_any h false hk hm
  go_enter Tryd.func38, Tryd.ntmps38
  go_wp2_with fail
  refine CR.mono ?_
  rintro e w1 ⟨rfl, hp⟩
  have HP := Lib.hid hp
  clear CR hp h
  go_wp2
  go_ret
  exact ⟨rfl, HP.out⟩

/-- A queue that the call itself has made. -/
structure AW (w wc : World) (q m1 m2 n : Nat) (tv : Value) (its : List QItem) : Prop where
  qa : QAt wc q m1 m2 n tv its
  bel : RowKit.Below w.heap.size w wc
  low : ∀ k, QF q m1 m2 tv k → w.heap.size ≤ k
theorem AW.grow {w wc w' : World} {q m1 m2 n : Nat} {tv : Value} {its : List QItem} (h : AW w wc q m1 m2 n tv its) (hb : RowKit.Below wc.heap.size wc w') : AW w w' q m1 m2 n tv its :=
  ⟨h.qa.grow hb, h.bel.trans (hb.mono h.bel.size), h.low⟩
theorem AW.turn {w wc w' : World} {q m1 m2 n n' : Nat} {tv tv' : Value} {its its' : List QItem} (h : AW w wc q m1 m2 n tv its) (ht : Turn (QF q m1 m2 tv) wc w') (hq : QAt w' q m1 m2 n' tv' its') (hF : ∀ k, QF q m1 m2 tv' k → QF q m1 m2 tv k ∨ wc.heap.size ≤ k) : AW w w' q m1 m2 n' tv' its' :=
  ⟨hq, h.bel.trans (ht.below h.bel.size h.low), fun k hk => by
    rcases hF k hk with h1 | h1
    · exact h.low k h1
    · exact Nat.le_trans h.bel.size h1⟩
theorem AW.submit {w wc : World} {q m1 m2 n : Nat} {tv : Value} {its : List QItem} (h : AW w wc q m1 m2 n tv its) (c : Cmd) (hc : CmdOk wc c) (hcap : ∀ b o, 0 < c.bs.length → c.da = some ⟨b, o, none⟩ → ¬ QF q m1 m2 tv b) (hn : n < 1000000) (hm : its.length ≤ 1000000) (h0 : submitE its c = 0) :
    Calls Tryd.prog 35 #[.pointer (some ⟨q, 0, none⟩), c.val] wc fun e w' => e = .returned (.int .i64 0) ∧ ∃ da dc tv', AW w w' q m1 m2 (n + 1) tv' (its ++ [(c.re da dc, false)]) :=
  (submit_any h.qa c hc hcap hn hm).mono fun e w' ⟨he, ht, _, hz⟩ => by
    obtain ⟨da, dc, tv', hq, hF, _⟩ := hz h0
    exact ⟨by rw [he, h0], da, dc, tv', h.turn ht hq hF⟩
theorem AW.start {w wc : World} {q m1 m2 n : Nat} {tv : Value} {its : List QItem} (h : AW w wc q m1 m2 n tv its) (tag : Int) (hk : (Lit.int .i64 tag).wf = true) (hn : n < 1000000) (hm : its.length ≤ 1000000) (h0 : startE its tag = 0) :
    Calls Tryd.prog 36 #[.pointer (some ⟨q, 0, none⟩), .int .i64 tag] wc fun e w' => e = .returned (.int .i64 0) ∧ AW w w' q m1 m2 (n + 1) tv (setSt its tag) :=
  (start_any h.qa hk hn hm).mono fun e w' ⟨he, ht, _, hz⟩ => ⟨by rw [he, h0], h.turn ht (hz h0) (fun k hk => Or.inl hk)⟩
theorem AW.startNo {w wc : World} {q m1 m2 n : Nat} {tv : Value} {its : List QItem} (h : AW w wc q m1 m2 n tv its) (tag : Int) (hk : (Lit.int .i64 tag).wf = true) (hn : n < 1000000) (hm : its.length ≤ 1000000) (h0 : startE its tag = 8) :
    Calls Tryd.prog 36 #[.pointer (some ⟨q, 0, none⟩), .int .i64 tag] wc fun e w' => e = .returned (.int .i64 8) ∧ AW w w' q m1 m2 n tv its :=
  (start_any h.qa hk hn hm).mono fun e w' ⟨he, ht, hz, _⟩ => ⟨by rw [he, h0], h.turn ht (hz (by rw [h0]; decide)) (fun k hk => Or.inl hk)⟩
theorem AW.finish {w wc : World} {q m1 m2 n : Nat} {tv : Value} {its : List QItem} (h : AW w wc q m1 m2 n tv its) (tag : Int) (hk : (Lit.int .i64 tag).wf = true) (hm : its.length ≤ 1000000) (h0 : removeE its tag true = 0) :
    Calls Tryd.prog 37 #[.pointer (some ⟨q, 0, none⟩), .int .i64 tag] wc fun e w' => e = .returned (.int .i64 0) ∧ ∃ tv', AW w w' q m1 m2 n tv' (removed its tag) :=
  (finish_any h.qa hk hm).mono fun e w' ⟨he, ht, _, hz⟩ => by
    obtain ⟨tv', hq, hF⟩ := hz h0
    exact ⟨by rw [he, h0], tv', h.turn ht hq hF⟩
theorem AW.new (w : World) : Calls Tryd.prog 29 #[] w fun e w' => ∃ q m1 m2, e = .returned (.pointer (some ⟨q, 0, none⟩)) ∧ AW w w' q m1 m2 0 (.slice none 0 0) [] :=
  (new_any w).mono fun e w' ⟨⟨q, m1, m2, he, hq, h1, h2, h3⟩, hb⟩ => ⟨q, m1, m2, he, hq, hb, fun k hk => by
    rcases hk with rfl | rfl | rfl | h
    · exact h1
    · exact h2
    · exact h3
    · cases h⟩

def ax0 (d : Option Addr) : Cmd := ⟨1, 2, 0, false, ⟨#[118]⟩, ⟨#[]⟩, 0, 4, d, 4, [zero8, zero8, zero8, zero8]⟩
def ax1 : Cmd := ⟨2, 1, 0, false, ⟨#[118]⟩, ⟨#[]⟩, 2, 4, none, 0, []⟩
def ax2 : Cmd := ⟨3, 1, 0, false, ⟨#[118]⟩, ⟨#[]⟩, 9, 1, none, 0, []⟩
def ax3 : Cmd := ⟨4, 4, 0, false, ⟨#[]⟩, ⟨#[]⟩, 0, 0, none, 0, []⟩
section
variable (d d0 d1 d2 d3 : Option Addr) (e0 e1 e2 e3 : Nat)
def i1 : List QItem := [] ++ [((ax0 d).re d0 e0, false)]
def i2 : List QItem := i1 d d0 e0 ++ [(ax1.re d1 e1, false)]
def i3 : List QItem := i2 d d0 d1 e0 e1 ++ [(ax2.re d2 e2, false)]
def i4 : List QItem := i3 d d0 d1 d2 e0 e1 e2 ++ [(ax3.re d3 e3, false)]
theorem av0 : submitE [] (ax0 d) = 0 := by kernel_rfl
theorem av1 : submitE (i1 d d0 e0) ax1 = 0 := by kernel_rfl
theorem av2 : submitE (i2 d d0 d1 e0 e1) ax2 = 0 := by kernel_rfl
theorem av3 : submitE (i3 d d0 d1 d2 e0 e1 e2) ax3 = 0 := by kernel_rfl
theorem ae1 : eligTags (i4 d d0 d1 d2 d3 e0 e1 e2 e3) = [1, 3] := by kernel_rfl
theorem as1 : startE (i4 d d0 d1 d2 d3 e0 e1 e2 e3) 2 = 8 := by kernel_rfl
theorem as2 : startE (i4 d d0 d1 d2 d3 e0 e1 e2 e3) 1 = 0 := by kernel_rfl
theorem ar1 : removeE (setSt (i4 d d0 d1 d2 d3 e0 e1 e2 e3) 1) 1 true = 0 := by kernel_rfl
theorem ae2 : eligTags (removed (setSt (i4 d d0 d1 d2 d3 e0 e1 e2 e3) 1) 1) = [2, 3] := by kernel_rfl
theorem al4 : (i4 d d0 d1 d2 d3 e0 e1 e2 e3).length = 4 := rfl
end
end Go.Proofs.YtfbafjlhdbjgoaaDoor
