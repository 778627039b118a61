/- awake of chapter 41, walked; QueueNil, walked. -/
import Derived.Test.YtfbafjlhdbjgoaaDoorQ12
namespace Go.Proofs.YtfbafjlhdbjgoaaDoor
set_option linter.unusedVariables false
set_option linter.unusedSimpArgs false
open Go.RowKit Go.Sort
set_option maxRecDepth 100000

theorem qf_lt {w : World} {q m1 m2 n : Nat} {tv : Value} {its : List QItem} (h : QAt w q m1 m2 n tv its) {k : Nat} (hk : QF q m1 m2 tv k) : k < w.heap.size := by
  rcases hk with rfl | rfl | rfl | e
  · exact h.qlt
  · exact h.cm.lt
  · exact h.st.lt
  · exact h.parts.2.2.2.2 k e
theorem ok_plain {w : World} {c : Cmd} (hb : c.bs = []) (hv : c.vol.size ≤ 140737488355328) (ho : c.oth.size ≤ 140737488355328) : CmdOk w c := ⟨fun h => by rw [hb] at h; exact absurd h (by decide), by rw [hb]; decide, hv, ho⟩

set_option maxHeartbeats 4000000 in
theorem awake41_any (w : World) : Calls Tryd.prog 27 #[] w fun e w' => e = .returned (.bool true) ∧ RowKit.Below w.heap.size w w' := by
  have hmk := run_makeBlocks
  go_enter Tryd.func27, Tryd.ntmps27
  go_wp2_with fail
  refine (AW.new w).mono ?_
  rintro e w1 ⟨q, m1, m2, rfl, h1⟩
  have h1a := h1.grow (below_box w1 (madeCells #[.int .u8 0, .int .u8 0, .int .u8 0, .int .u8 0, .int .u8 0, .int .u8 0, .int .u8 0, .int .u8 0] 32) 60)
  have C1 := h1a.submit (ax0 (some ⟨w1.heap.size, 0, none⟩)) ⟨dat4 w1, by simp [ax0], by show (1 : Nat) ≤ _; decide, by show (0 : Nat) ≤ _; decide⟩ (fun b o _ e hq => by
    have := qf_lt h1.qa hq
    have e1 : w1.heap.size = b := by simp only [ax0, Option.some.injEq] at e; injection e
    omega) (by omega) (by decide) (av0 _)
  clear h1a
  go_wp2_with fail
  refine C1.mono ?_
  rintro e w2 ⟨rfl, d0, e0, tv2, h2⟩
  clear C1
  have C2 := h2.submit ax1 (ok_plain rfl (by show (1 : Nat) ≤ _; decide) (by show (0 : Nat) ≤ _; decide)) (fun b o hl => absurd hl (by decide)) (by omega) (by simp) (av1 _ d0 e0)
  clear hmk
  go_wp2_with fail
  refine C2.mono ?_
  rintro e w3 ⟨rfl, d1, e1, tv3, h3⟩
  clear C2
  have C3 := h3.submit ax2 (ok_plain rfl (by show (1 : Nat) ≤ _; decide) (by show (0 : Nat) ≤ _; decide)) (fun b o hl => absurd hl (by decide)) (by omega) (by simp) (av2 _ d0 d1 e0 e1)
  go_wp2_with fail
  refine C3.mono ?_
  rintro e w4 ⟨rfl, d2, e2, tv4, h4⟩
  clear C3
  have C4 := h4.submit ax3 (ok_plain rfl (by show (0 : Nat) ≤ _; decide) (by show (0 : Nat) ≤ _; decide)) (fun b o hl => absurd hl (by decide)) (by omega) (by simp) (av3 _ d0 d1 d2 e0 e1 e2)
  go_wp2_with fail
  refine C4.mono ?_
  rintro e w5 ⟨rfl, d3, e3, tv5, h5⟩
  clear C4
  have h5' : AW w w5 q m1 m2 4 tv5 (i4 (some ⟨w1.heap.size, 0, none⟩) d0 d1 d2 d3 e0 e1 e2 e3) := h5
  clear h5 h1 h2 h3 h4
  have C5 := eligible_any h5'.qa (by simp [al4])
  rw [ae1] at C5
  go_wp2_with fail
  refine C5.mono ?_
  rintro e w6 ⟨a6, c6, rfl, hI6, hB6⟩
  clear C5
  have h6 := h5'.grow hB6
  have hB7 := below_box w6 #[.int .i64 1, .int .i64 3] 3
  have h7 := h6.grow hB7
  have C6 := same_ints41_any a6 (some ⟨w6.heap.size, 0, none⟩) c6 2 [1, 3] [1, 3] _ (hI6.mono hB7) (fun _ => ⟨w6.heap.size, 0, rfl, fun i x hx => by
    rw [World.cell?, heap_alloc_new]
    match i, hx with
    | 0, hx => cases hx; rfl
    | 1, hx => cases hx; rfl⟩) (by decide)
  clear h5' h6
  go_wp2_with fail
  refine C6.mono ?_
  rintro e w8 ⟨rfl, hB8⟩
  have h8 := h7.grow hB8
  clear C6 h7 hI6
  have C7 := h8.startNo 2 (by decide) (by omega) (by simp [al4]) (as1 _ d0 d1 d2 d3 e0 e1 e2 e3)
  go_wp2_with fail
  refine C7.mono ?_
  rintro e w9 ⟨rfl, h9⟩
  clear C7 h8
  have C8 := h9.start 1 (by decide) (by omega) (by simp [al4]) (as2 _ d0 d1 d2 d3 e0 e1 e2 e3)
  go_wp2_with fail
  refine C8.mono ?_
  rintro e w10 ⟨rfl, h10⟩
  clear C8 h9
  have C9 := h10.finish 1 (by decide) (by simp [setSt, al4]) (ar1 _ d0 d1 d2 d3 e0 e1 e2 e3)
  go_wp2_with fail
  refine C9.mono ?_
  rintro e w11 ⟨rfl, tv11, h11⟩
  clear C9 h10
  have C10 := eligible_any h11.qa (by
    have := List.length_filter_le (fun x : QItem => x.1.tag != 1) (setSt (i4 (some ⟨w1.heap.size, 0, none⟩) d0 d1 d2 d3 e0 e1 e2 e3) 1)
    simp [setSt, al4] at this
    simp only [removed, setSt]
    omega)
  rw [ae2] at C10
  go_wp2_with fail
  refine C10.mono ?_
  rintro e w12 ⟨a12, c12, rfl, hI12, hB12⟩
  clear C10
  have h12 := h11.grow hB12
  have hB13 := below_box w12 #[.int .i64 2, .int .i64 3] 3
  have h13 := h12.grow hB13
  have C11 := same_ints41_any a12 (some ⟨w12.heap.size, 0, none⟩) c12 2 [2, 3] [2, 3] _ (hI12.mono hB13) (fun _ => ⟨w12.heap.size, 0, rfl, fun i x hx => by
    rw [World.cell?, heap_alloc_new]
    match i, hx with
    | 0, hx => cases hx; rfl
    | 1, hx => cases hx; rfl⟩) (by decide)
  clear h11 h12
  go_wp2_with fail
  refine C11.mono ?_
  rintro e w14 ⟨rfl, hB14⟩
  have h14 := h13.grow hB14
  have hbel := h14.bel
  clear C11 h13 h14 hI12
  go_wp2_with fail
  go_ret
  exact ⟨rfl, hbel⟩
end Go.Proofs.YtfbafjlhdbjgoaaDoor
