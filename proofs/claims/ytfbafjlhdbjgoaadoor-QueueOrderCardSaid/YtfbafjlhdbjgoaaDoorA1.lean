/- Contracts of small functions: fence, Fence, inside, within, only. -/
import Derived.Test.YtfbafjlhdbjgoaaDoorProg
import Derived.WalkKit
import Derived.Below
import Derived.Lib.Hide
namespace Go.Proofs.YtfbafjlhdbjgoaaDoor
set_option linter.unusedVariables false
set_option linter.unusedSimpArgs false
open Go.RowKit

/-- A block's eight bytes. -/
structure B8 where
  x0 : Int
  x1 : Int
  x2 : Int
  x3 : Int
  x4 : Int
  x5 : Int
  x6 : Int
  x7 : Int
  deriving DecidableEq

/-- A command as the program holds it: its nine cells (bs: the blocks that its data hold; their number is the slice's length). -/
structure Cmd where
  tag : Int
  kind : Int
  ord : Int
  force : Bool
  vol : ByteArray
  oth : ByteArray
  pos : Int
  len : Int
  da : Option Addr
  dc : Nat
  bs : List B8

@[reducible] def Cmd.arr (c : Cmd) : Array Value := #[.int .i64 c.tag, .int .i64 c.kind, .int .i64 c.ord, .bool c.force, .string c.vol, .string c.oth, .int .i64 c.pos, .int .i64 c.len, .slice c.da c.bs.length c.dc]
@[reducible] def Cmd.val (c : Cmd) : Value := .agg #[.int .i64 c.tag, .int .i64 c.kind, .int .i64 c.ord, .bool c.force, .string c.vol, .string c.oth, .int .i64 c.pos, .int .i64 c.len, .slice c.da c.bs.length c.dc]

/-- At this place lie the block's eight bytes. -/
def At8 (w : World) (b o : Nat) (x : B8) : Prop :=
  w.cell? ⟨b, o, none⟩ = some (.int .u8 x.x0) ∧ w.cell? ⟨b, o + 1, none⟩ = some (.int .u8 x.x1) ∧ w.cell? ⟨b, o + 2, none⟩ = some (.int .u8 x.x2) ∧ w.cell? ⟨b, o + 3, none⟩ = some (.int .u8 x.x3) ∧
  w.cell? ⟨b, o + 4, none⟩ = some (.int .u8 x.x4) ∧ w.cell? ⟨b, o + 5, none⟩ = some (.int .u8 x.x5) ∧ w.cell? ⟨b, o + 6, none⟩ = some (.int .u8 x.x6) ∧ w.cell? ⟨b, o + 7, none⟩ = some (.int .u8 x.x7)

/-- At this address lie these blocks. -/
def Dat (w : World) (da : Option Addr) (bs : List B8) : Prop :=
  0 < bs.length → ∃ b o, da = some ⟨b, o, none⟩ ∧ ∀ i x, bs[i]? = some x → At8 w b (o + i * 8) x

theorem At8.mono {w w' : World} {b o : Nat} {x : B8} (h : At8 w b o x) (hb : Below w.heap.size w w') : At8 w' b o x := by
  obtain ⟨h0, h1, h2, h3, h4, h5, h6, h7⟩ := h
  have k : ∀ p v, w.cell? p = some v → w'.cell? p = some v := fun p v h => (hb.cell (block_lt_of_cell h)).trans h
  exact ⟨k _ _ h0, k _ _ h1, k _ _ h2, k _ _ h3, k _ _ h4, k _ _ h5, k _ _ h6, k _ _ h7⟩
theorem Dat.mono {w w' : World} {da : Option Addr} {bs : List B8} (h : Dat w da bs) (hb : Below w.heap.size w w') : Dat w' da bs := fun hl => by
  obtain ⟨b, o, e, hc⟩ := h hl
  exact ⟨b, o, e, fun i x hx => (hc i x hx).mono hb⟩

def fenceB (c : Cmd) : Bool := c.ord == 1 || c.kind == 4
def insideB (p n : Int) : Bool := decide (0 ≤ p ∧ 1 ≤ n ∧ p ≤ 65536 ∧ n ≤ 65536 - p)

theorem ret_bool {a b : Bool} (h : a = b) : Ending.returned (.bool a) = Ending.returned (.bool b) := by rw [h]
theorem below_box (w : World) (cs : Array Value) (t : TypeId) : Below w.heap.size w (w.alloc (.cells cs t)) := (Below.refl _ _).alloc (Nat.le_refl _) _

theorem below_two (w : World) (A B : Array Value) (t u : TypeId) : Below w.heap.size w ((w.alloc (.cells A t)).alloc (.cells B u)) := ((Below.refl _ _).alloc (Nat.le_refl _) _).alloc (by simp) _

theorem fence_any (c : Cmd) (w : World) : Calls Tryd.prog 50 #[c.val] w fun e w' => e = .returned (.bool (fenceB c)) ∧ Below w.heap.size w w' := by
  go_enter Tryd.func50, Tryd.ntmps50
  go_wp2
  all_goals (go_ret; exact ⟨by simp [fenceB, *], below_box _ _ _⟩)

theorem refFence_any (c : Cmd) (w : World) : Calls Tryd.prog 41 #[c.val] w fun e w' => e = .returned (.bool (fenceB c)) ∧ Below w.heap.size w w' := by
  go_enter Tryd.func41, Tryd.ntmps41
  go_wp2
  all_goals (go_ret; exact ⟨by simp [fenceB, *], below_box _ _ _⟩)

theorem inside_any (p n : Int) (w : World) : Calls Tryd.prog 82 #[.int .i64 p, .int .i64 n] w fun e w' => e = .returned (.bool (insideB p n)) ∧ w = w' := by
  go_enter Tryd.func82, Tryd.ntmps82
  go_wp2
  all_goals (go_ret; refine ⟨?_, rfl⟩)
  all_goals (apply ret_bool; simp only [insideB]; symm; first | exact decide_eq_true (by omega) | exact decide_eq_false (by omega) | exact decide_eq_decide.2 (by omega))
theorem within_any (p n : Int) (w : World) : Calls Tryd.prog 70 #[.int .i64 p, .int .i64 n] w fun e w' => e = .returned (.bool (insideB p n)) ∧ w = w' := by
  go_enter Tryd.func70, Tryd.ntmps70
  go_wp2
  all_goals (go_ret; refine ⟨?_, rfl⟩)
  all_goals (apply ret_bool; simp only [insideB]; symm; first | exact decide_eq_true (by omega) | exact decide_eq_false (by omega) | exact decide_eq_decide.2 (by omega))
end Go.Proofs.YtfbafjlhdbjgoaaDoor
