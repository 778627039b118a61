/- Same of the reference, at two commands of the same content. -/
import Derived.Test.YtfbafjlhdbjgoaaDoorQ7
namespace Go.Proofs.YtfbafjlhdbjgoaaDoor
set_option linter.unusedVariables false
set_option linter.unusedSimpArgs false
open Go.RowKit Go.Sort
set_option maxRecDepth 100000

@[reducible] def valAt (c : Cmd) (da : Option Addr) (dc : Nat) : Value := .agg #[.int .i64 c.tag, .int .i64 c.kind, .int .i64 c.ord, .bool c.force, .string c.vol, .string c.oth, .int .i64 c.pos, .int .i64 c.len, .slice da c.bs.length dc]
set_option maxHeartbeats 2000000 in
theorem same44_ne (c : Cmd) (da da' : Option Addr) (dc dc' : Nat) (w : World) (hpos : 0 < c.bs.length) (hd : Dat w da c.bs) (hd' : Dat w da' c.bs) (hm : (c.bs.length : Int) ≤ 17592186044416) :
    Calls Tryd.prog 44 #[valAt c da dc, valAt c da' dc'] w fun e w' => e = .returned (.bool true) ∧ RowKit.Below w.heap.size w w' := by
  obtain ⟨ab, ao, rfl, ca⟩ := hd hpos
  obtain ⟨bb, bo, rfl, cb⟩ := hd' hpos
  have hg := guard_b8
  have hneq := run_neq_b8
  clear hd hd'
  go_enter Tryd.func44, Tryd.ntmps44
  go_wp2
  go_loopw [5] (fun i wr => ∃ k : Nat, k ≤ c.bs.length ∧ i = .int .i64 k ∧ RowKit.Below (w.heap.size + 2) ((w.alloc (.cells (c.re (some ⟨ab, ao, none⟩) dc).arr 24)).alloc (.cells (c.re (some ⟨bb, bo, none⟩) dc').arr 24)) wr) (fun i _ => c.bs.length - (intOf i).toNat)
  case atStart => exact ⟨0, Nat.zero_le _, rfl, RowKit.Below.refl _ _⟩
  case round =>
    obtain ⟨k, hk, rfl, hb⟩ := hrel
    obtain ⟨hbw, hs0, hs1, hba, hbb⟩ := box2 hb
    have p8 : wr.cell? ⟨w.heap.size, 8, none⟩ = some (.slice (some ⟨ab, ao, none⟩) c.bs.length dc) := hba.2.2.2.2.2.2.2.2
    have q8 : wr.cell? ⟨w.heap.size + 1, 8, none⟩ = some (.slice (some ⟨bb, bo, none⟩) c.bs.length dc') := hbb.2.2.2.2.2.2.2.2
    clear hba hbb
    by_cases hlt : k < c.bs.length
    · obtain ⟨x, hx⟩ : ∃ x, c.bs[k]? = some x := ⟨_, List.getElem?_eq_getElem hlt⟩
      obtain ⟨a0, a1, a2, a3, a4, a5, a6, a7⟩ := (ca k x hx).mono hbw
      obtain ⟨b0, b1, b2, b3, b4, b5, b6, b7⟩ := (cb k x hx).mono hbw
      clear hx ca cb
      go_wp2
      go_quiet (fail)
      go_wp2
      go_roundw
      case rel => exact ⟨k + 1, by omega, by go_num, below_drewN hb _⟩
      case measure => simp [intOf]; omega
    · clear ca cb
      go_wp2
      go_ret
      exact ⟨rfl, hbw⟩
set_option maxHeartbeats 2000000 in
theorem same44_eq (c : Cmd) (da da' : Option Addr) (dc dc' : Nat) (w : World) (hd : Dat w da c.bs) (hd' : Dat w da' c.bs) (hm : (c.bs.length : Int) ≤ 17592186044416) :
    Calls Tryd.prog 44 #[valAt c da dc, valAt c da' dc'] w fun e w' => e = .returned (.bool true) ∧ RowKit.Below w.heap.size w w' := by
  by_cases hp : 0 < c.bs.length
  · exact same44_ne c da da' dc dc' w hp hd hd' hm
  · have hz : c.bs.length = 0 := by omega
    unfold valAt
    rw [hz]
    clear hd hd' hm hp hz
    go_enter Tryd.func44, Tryd.ntmps44
    go_wp2
    refine wp_loop_rounds 1 ?_
    rw [rounds_succ]
    go_wp2
    go_ret
    exact ⟨rfl, below_two w _ _ _ _⟩
end Go.Proofs.YtfbafjlhdbjgoaaDoor
