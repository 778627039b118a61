/- awake: the example of the document holds. -/
import Derived.Test.YtfbafjlhdbjgoaaDoorE1
import Derived.Deep.RegionHeld3
namespace Go.Proofs.YtfbafjlhdbjgoaaDoor
set_option linter.unusedVariables false
set_option linter.unusedSimpArgs false
open Go.RowKit Go.Sort

theorem ints_new (W : World) (xs : List Int) (t : TypeId) : Ints (W.alloc (.cells (xs.map (Value.int .i64)).toArray t)) (some ⟨W.heap.size, 0, none⟩) xs := fun _ => ⟨W.heap.size, 0, rfl, fun i x hx => by
  rw [World.cell?, heap_alloc_new]
  simp [hx]⟩

set_option maxHeartbeats 8000000 in
set_option maxRecDepth 100000 in
theorem awake_any (w : World) : Calls Tryd.prog 18 #[] w fun e w' => e = .returned (.bool true) ∧ Below w.heap.size w w' := by
  go_enter Tryd.func18, Tryd.ntmps18
  go_wp2_with fail
  go_wp2_with (go_at_call 49; refine (example_any w).mono ?_; rintro e w1 ⟨g, d, rfl, hok, hx0, hx1, hx2, hx3, hB1⟩)
  have hC : Cmds w1 (some ⟨g, 0, none⟩) (exs d) := ⟨hok, fun _ => ⟨g, 0, rfl, fun i c hc => by
    match i, hc with
    | 0, hc => cases hc; exact hx0
    | 1, hc => cases hc; exact hx1
    | 2, hc => cases hc; exact hx2
    | 3, hc => cases hc; exact hx3⟩⟩
  have k0 : CmdOk w1 (ex0 d) := hok 0 _ rfl
  have k1 : CmdOk w1 ex1 := hok 1 _ rfl
  have k2 : CmdOk w1 ex2 := hok 2 _ rfl
  have C1 : Hid (∀ W, RowKit.Below w1.heap.size w1 W → Calls Tryd.prog 19 #[(ex0 d).val, ex1.val] W fun e W' => e = .returned (.bool true) ∧ RowKit.Below W.heap.size W W') := fun W hW => by
    have := before_any (ex0 d) ex1 W (k0.mono hW) (k1.mono hW); rwa [ex_b01] at this
  have C2 : Hid (∀ W, RowKit.Below w1.heap.size w1 W → Calls Tryd.prog 19 #[(ex0 d).val, ex2.val] W fun e W' => e = .returned (.bool false) ∧ RowKit.Below W.heap.size W W') := fun W hW => by
    have := before_any (ex0 d) ex2 W (k0.mono hW) (k2.mono hW); rwa [ex_b02] at this
  have C3 : Hid (∀ W, RowKit.Below w1.heap.size w1 W → Calls Tryd.prog 39 #[.slice (some ⟨g, 0, none⟩) 4 4] W fun e W' => ∃ a c, e = .returned (.slice a 4 c) ∧ Ints W' a [0, 1, 0, 2] ∧ RowKit.Below W.heap.size W W') := fun W hW => by
    have := levels_any (some ⟨g, 0, none⟩) 4 (exs d) W (hC.mono hW) (by rw [ex_len]; decide); rwa [ex_levels] at this
  have C4 : Hid (∀ W, RowKit.Below w1.heap.size w1 W → Calls Tryd.prog 23 #[.slice (some ⟨g, 0, none⟩) 4 4, .slice none 0 0] W fun e W' => ∃ a c, e = .returned (.slice a 2 c) ∧ Ints W' a [0, 2] ∧ RowKit.Below W.heap.size W W') := fun W hW => by
    have := elig_any (some ⟨g, 0, none⟩) none 4 0 (exs d) [] W (hC.mono hW) (fun h => absurd h (by decide)) (by rw [ex_len]; decide); rwa [ex_elig] at this
  have C5 : Hid (∀ W a c, RowKit.Below w1.heap.size w1 W → Ints W a [2, 0, 1, 3] → Calls Tryd.prog 25 #[.slice (some ⟨g, 0, none⟩) 4 4, .slice a 4 c] W fun e W' => e = .returned (.bool true) ∧ RowKit.Below W.heap.size W W') := fun W a c hW ho => by
    have := resp_any (some ⟨g, 0, none⟩) a 4 c (exs d) [2, 0, 1, 3] W (hC.mono hW) ho (by rw [ex_len]; decide); rwa [ex_resp] at this
  have C6 : Hid (∀ W a c, RowKit.Below w1.heap.size w1 W → Ints W a [1, 0, 2, 3] → Calls Tryd.prog 25 #[.slice (some ⟨g, 0, none⟩) 4 4, .slice a 4 c] W fun e W' => e = .returned (.bool false) ∧ RowKit.Below W.heap.size W W') := fun W a c hW ho => by
    have := resp_any (some ⟨g, 0, none⟩) a 4 c (exs d) [1, 0, 2, 3] W (hC.mono hW) ho (by rw [ex_len]; decide); rwa [ex_resp2] at this
  have C19 : Hid (∀ W b r, RowKit.Below w1.heap.size w1 W → (b = ex1.val ∧ r = true ∨ b = ex2.val ∧ r = false) → Calls Tryd.prog 19 #[(ex0 d).val, b] W fun e W' => e = .returned (.bool r) ∧ RowKit.Below W.heap.size W W') := fun W b r hW h => by
    rcases h with ⟨rfl, rfl⟩ | ⟨rfl, rfl⟩
    · exact C1.out W hW
    · exact C2.out W hW
  have C22 : Hid (∀ (W : World) (a b : Option Addr) (n c c' : Nat) (xs : List Int), (n = 4 ∧ xs = [0, 1, 0, 2] ∨ n = 2 ∧ xs = [0, 2]) → Ints W a xs → Ints W b xs → Calls Tryd.prog 22 #[.slice a n c, .slice b n c'] W fun e W' => e = .returned (.bool true) ∧ RowKit.Below W.heap.size W W') := fun W a b n c c' xs h h1 h2 => by
    have hl : xs.length = n ∧ (xs.length : Int) ≤ 17592186044416 := by rcases h with ⟨rfl, rfl⟩ | ⟨rfl, rfl⟩ <;> simp
    have := same_ints_any a b c c' xs xs W h1 h2 hl.2
    rw [hl.1] at this
    simpa using this
  have C25 : Hid (∀ W a c xs r, RowKit.Below w1.heap.size w1 W → (xs = [2, 0, 1, 3] ∧ r = true ∨ xs = [1, 0, 2, 3] ∧ r = false) → Ints W a xs → Calls Tryd.prog 25 #[.slice (some ⟨g, 0, none⟩) 4 4, .slice a 4 c] W fun e W' => e = .returned (.bool r) ∧ RowKit.Below W.heap.size W W') := fun W a c xs r hW h hI => by
    rcases h with ⟨rfl, rfl⟩ | ⟨rfl, rfl⟩
    · exact C5.out W a c hW hI
    · exact C6.out W a c hW hI
  clear C1 C2 C5 C6
  clear k0 k1 k2 hC hok hx3
  obtain ⟨a0, a1, a2, a3, a4, a5, a6, a7, a8⟩ := hx0
  obtain ⟨b0, b1, b2, b3, b4, b5, b6, b7, b8⟩ := hx1
  obtain ⟨c0, c1, c2, c3, c4, c5, c6, c7, c8⟩ := hx2
  have SK : Hid (∀ W, RowKit.Below w1.heap.size w1 W → (RowKit.Below w1.heap.size w1 W ∧ W.cell? ⟨g, 0, none⟩ = some (.int .i64 1) ∧ W.cell? ⟨g, 1, none⟩ = some (.int .i64 2) ∧ W.cell? ⟨g, 2, none⟩ = some (.int .i64 0) ∧ W.cell? ⟨g, 3, none⟩ = some (.bool false) ∧ W.cell? ⟨g, 4, none⟩ = some (.string ⟨#[97]⟩) ∧ W.cell? ⟨g, 5, none⟩ = some (.string ⟨#[]⟩) ∧ W.cell? ⟨g, 6, none⟩ = some (.int .i64 0) ∧ W.cell? ⟨g, 7, none⟩ = some (.int .i64 4) ∧ W.cell? ⟨g, 8, none⟩ = some (.slice d 4 4) ∧ W.cell? ⟨g, 9, none⟩ = some (.int .i64 2) ∧ W.cell? ⟨g, 10, none⟩ = some (.int .i64 1) ∧ W.cell? ⟨g, 11, none⟩ = some (.int .i64 0) ∧ W.cell? ⟨g, 12, none⟩ = some (.bool false) ∧ W.cell? ⟨g, 13, none⟩ = some (.string ⟨#[97]⟩) ∧ W.cell? ⟨g, 14, none⟩ = some (.string ⟨#[]⟩) ∧ W.cell? ⟨g, 15, none⟩ = some (.int .i64 3) ∧ W.cell? ⟨g, 16, none⟩ = some (.int .i64 2) ∧ W.cell? ⟨g, 17, none⟩ = some (.slice none 0 0) ∧ W.cell? ⟨g, 18, none⟩ = some (.int .i64 3) ∧ W.cell? ⟨g, 19, none⟩ = some (.int .i64 1) ∧ W.cell? ⟨g, 20, none⟩ = some (.int .i64 0) ∧ W.cell? ⟨g, 21, none⟩ = some (.bool false) ∧ W.cell? ⟨g, 22, none⟩ = some (.string ⟨#[97]⟩) ∧ W.cell? ⟨g, 23, none⟩ = some (.string ⟨#[]⟩) ∧ W.cell? ⟨g, 24, none⟩ = some (.int .i64 4) ∧ W.cell? ⟨g, 25, none⟩ = some (.int .i64 2) ∧ W.cell? ⟨g, 26, none⟩ = some (.slice none 0 0))) := fun W hW => ⟨hW, cell_keep hW a0, cell_keep hW a1, cell_keep hW a2, cell_keep hW a3, cell_keep hW a4, cell_keep hW a5, cell_keep hW a6, cell_keep hW a7, cell_keep hW a8, cell_keep hW b0, cell_keep hW b1, cell_keep hW b2, cell_keep hW b3, cell_keep hW b4, cell_keep hW b5, cell_keep hW b6, cell_keep hW b7, cell_keep hW b8, cell_keep hW c0, cell_keep hW c1, cell_keep hW c2, cell_keep hW c3, cell_keep hW c4, cell_keep hW c5, cell_keep hW c6, cell_keep hW c7, cell_keep hW c8⟩
  clear a0 a1 a2 a3 a4 a5 a6 a7 a8 b0 b1 b2 b3 b4 b5 b6 b7 b8 c0 c1 c2 c3 c4 c5 c6 c7 c8
  have h0 : RowKit.Below w1.heap.size w1 w1.drew := (RowKit.Below.refl _ _).drew
  go_region_held3 (fun W => RowKit.Below w1.heap.size w1 W ∧ W.cell? ⟨g, 0, none⟩ = some (.int .i64 1) ∧ W.cell? ⟨g, 1, none⟩ = some (.int .i64 2) ∧ W.cell? ⟨g, 2, none⟩ = some (.int .i64 0) ∧ W.cell? ⟨g, 3, none⟩ = some (.bool false) ∧ W.cell? ⟨g, 4, none⟩ = some (.string ⟨#[97]⟩) ∧ W.cell? ⟨g, 5, none⟩ = some (.string ⟨#[]⟩) ∧ W.cell? ⟨g, 6, none⟩ = some (.int .i64 0) ∧ W.cell? ⟨g, 7, none⟩ = some (.int .i64 4) ∧ W.cell? ⟨g, 8, none⟩ = some (.slice d 4 4) ∧ W.cell? ⟨g, 9, none⟩ = some (.int .i64 2) ∧ W.cell? ⟨g, 10, none⟩ = some (.int .i64 1) ∧ W.cell? ⟨g, 11, none⟩ = some (.int .i64 0) ∧ W.cell? ⟨g, 12, none⟩ = some (.bool false) ∧ W.cell? ⟨g, 13, none⟩ = some (.string ⟨#[97]⟩) ∧ W.cell? ⟨g, 14, none⟩ = some (.string ⟨#[]⟩) ∧ W.cell? ⟨g, 15, none⟩ = some (.int .i64 3) ∧ W.cell? ⟨g, 16, none⟩ = some (.int .i64 2) ∧ W.cell? ⟨g, 17, none⟩ = some (.slice none 0 0) ∧ W.cell? ⟨g, 18, none⟩ = some (.int .i64 3) ∧ W.cell? ⟨g, 19, none⟩ = some (.int .i64 1) ∧ W.cell? ⟨g, 20, none⟩ = some (.int .i64 0) ∧ W.cell? ⟨g, 21, none⟩ = some (.bool false) ∧ W.cell? ⟨g, 22, none⟩ = some (.string ⟨#[97]⟩) ∧ W.cell? ⟨g, 23, none⟩ = some (.string ⟨#[]⟩) ∧ W.cell? ⟨g, 24, none⟩ = some (.int .i64 4) ∧ W.cell? ⟨g, 25, none⟩ = some (.int .i64 2) ∧ W.cell? ⟨g, 26, none⟩ = some (.slice none 0 0)) ((refine SK.out _ ?_; first | exact RowKit.Below.alloc (And.left (by assumption)) (RowKit.Below.size (And.left (by assumption))) _ | exact RowKit.Below.trans (And.left (by assumption)) (hb.mono (RowKit.Below.size (And.left (by assumption)))) | exact h0 | exact RowKit.Below.refl _ _))
    (first
      | (go_at_call 19; refine (C19.out _ _ _ (And.left (by assumption)) (by first | exact Or.inl ⟨rfl, rfl⟩ | exact Or.inr ⟨rfl, rfl⟩)).mono ?_; rintro e w' ⟨rfl, hb⟩)
      | (go_at_call 39; refine (C3.out _ (And.left (by assumption))).mono ?_; rintro e w' ⟨a, c, rfl, hI, hb⟩)
      | (go_at_call 23; refine (C4.out _ (And.left (by assumption))).mono ?_; rintro e w' ⟨a, c, rfl, hI, hb⟩)
      | (go_at_call 22; refine (C22.out _ _ _ _ _ _ _ (by first | exact Or.inl ⟨rfl, rfl⟩ | exact Or.inr ⟨rfl, rfl⟩) (by first | exact hI | exact hI.mono ((RowKit.Below.refl _ _).alloc (Nat.le_refl _) _)) (by first | exact ints_new _ _ _ | exact (ints_new _ _ _).mono hb)).mono ?_; rintro e w' ⟨rfl, hb⟩)
      | (go_at_call 25; refine (C25.out _ _ _ _ _ (And.left (by assumption)) (Or.inl ⟨rfl, rfl⟩) (by exact ints_new _ [2, 0, 1, 3] _)).mono ?_; rintro e w' ⟨rfl, hb⟩)
      | (go_at_call 25; refine (C25.out _ _ _ _ _ (And.left (by assumption)) (Or.inr ⟨rfl, rfl⟩) (by exact ints_new _ [1, 0, 2, 3] _)).mono ?_; rintro e w' ⟨rfl, hb⟩))
  all_goals go_wp2
  all_goals go_ret
  all_goals exact ⟨rfl, hB1.trans ((RowKit.Below.mono (And.left (by assumption)) (Nat.le_refl _)).mono hB1.size)⟩
end Go.Proofs.YtfbafjlhdbjgoaaDoor
