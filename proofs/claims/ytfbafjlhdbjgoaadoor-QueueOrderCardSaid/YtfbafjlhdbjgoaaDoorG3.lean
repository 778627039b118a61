/- Slices of bytes opened. -/
import Derived.Test.YtfbafjlhdbjgoaaDoorG2
namespace Go.Proofs.YtfbafjlhdbjgoaaDoor
set_option linter.unusedVariables false
set_option linter.unusedSimpArgs false
open Go.RowKit Go.Sort Go.ChangeShapes Go.WideShapes Go.Deep
set_option maxRecDepth 100000

/-- At this address lie these bytes. -/
def BytesAt (w : World) (a : Option Addr) (xs : List Nat) : Prop := 0 < xs.length → ∃ b o, a = some ⟨b, o, none⟩ ∧ ∀ i x, xs[i]? = some x → w.cell? ⟨b, o + i, none⟩ = some (.int .u8 (x : Nat))
theorem BytesAt.mono {w w' : World} {a : Option Addr} {xs : List Nat} (h : BytesAt w a xs) (hb : RowKit.Below w.heap.size w w') : BytesAt w' a xs := fun hl => by
  obtain ⟨b, o, e, hc⟩ := h hl
  exact ⟨b, o, e, fun i x hx => cell_keep hb (hc i x hx)⟩
section
variable {H : Type} {enc : TypeId × Value → H} {w : World} {base : Nat} {spare : Nat → Bool} {held : Bool}
theorem open_bytes_of {t : TypeId} (ht : Tryd.prog.underlying t = some (.slice 5)) {v : Value} {d : DataW H} {p : List MemPlace} {r : Reach} {b0 : Nat} (hv : Value.okWide Tryd.prog w r b0 t v) (h : DataW.Trod enc Tryd.prog w base spare held t v d p) (hs : Small t d) :
    ∃ la xs lc, v = .slice la xs.length lc ∧ (BytesAt w la xs ∧ ∀ x ∈ xs, x ≤ 255) ∧ (xs.length : Int) ≤ 140737488355328 := by
  obtain ⟨fuel, hf⟩ := h
  obtain ⟨a0, l0, c0, rfl⟩ := okWide_slice ht hv
  rw [show (Value.slice a0 l0 c0).cells.toList = [.slice a0 l0 c0] from rfl] at hf
  rcases open_slice ht hf with ⟨h0, _⟩ | ⟨a, len, cap, m, n', D, Pl, hcs, hb, hl, hm, hmm, hx, hi⟩
  · exact ⟨none, [], 0, by simpa using h0, ⟨fun h => absurd h (by decide), fun x hx => by cases hx⟩, by simp⟩
  · have hlm : len ≤ m := by rw [hmm]; split <;> omega
    simp only [Prod.mk.injEq] at hx
    obtain ⟨rfl, _⟩ := hx
    obtain ⟨hw, _⟩ := Small.slice ht hs
    rw [show Tryd.prog.bytesOf 5 = 1 by kernel_rfl] at hw
    simp only [List.length_map, List.length_range] at hw
    have hr := reachBytes_lt
    rw [cells5] at hi
    have key : ∀ i, i < len → ∃ z : Nat, w.cell? (a.add i) = some (.int .u8 (z : Nat)) ∧ z ≤ 255 := fun i hil => by
      obtain ⟨cs', hc, ht'⟩ := hi i (by omega)
      obtain ⟨_, _, hat⟩ := World.cells?_some hc
      obtain ⟨z, rfl, _, hwf⟩ := DataW.trod_int Tryd.underlying5 ht'
      have := hat 0 (by omega)
      have hbd := bounds_u8 hwf
      obtain ⟨n, rfl⟩ := Int.eq_ofNat_of_zero_le hbd.1
      exact ⟨n, by simpa [Addr.add] using this, by omega⟩
    obtain ⟨b, o, sp⟩ := a
    by_cases hp : 0 < len
    · have hsp : sp = none := by
        obtain ⟨z, h0, _⟩ := key 0 hp
        simpa [Addr.add] using World.cell?_spot h0
      subst hsp
      obtain ⟨B, hB⟩ := choose_lt (α := Nat) (n := len) (p := fun i z => w.cell? ⟨b, o + i, none⟩ = some (.int .u8 (z : Nat)) ∧ z ≤ 255) (fun i hil => by
        obtain ⟨z, hz, hz'⟩ := key i hil
        rw [Go.WideShapes.add_plain] at hz
        exact ⟨z, hz, hz'⟩)
      refine ⟨some ⟨b, o, none⟩, (List.range len).map B, cap, by simpa using hcs, ⟨fun _ => ⟨b, o, rfl, fun i c hc => ?_⟩, fun x hx => ?_⟩, by simp; omega⟩
      · obtain ⟨hil, rfl⟩ := map_range_some hc
        exact (hB i hil).1
      · rw [List.mem_map] at hx
        obtain ⟨i, hi', rfl⟩ := hx
        exact (hB i (by simpa using hi')).2
    · have : len = 0 := by omega
      subst this
      exact ⟨_, [], cap, by simpa using hcs, ⟨fun h => absurd h (by decide), fun x hx => by cases hx⟩, by simp⟩
theorem open_bytesl {v : Value} {d : DataW H} {p : List MemPlace} {r : Reach} {b0 : Nat} (hv : Value.okWide Tryd.prog w r b0 54 v) (h : DataW.Trod enc Tryd.prog w base spare held 54 v d p) (hs : Small 54 d) :
    ∃ la xs lc, v = .slice la xs.length lc ∧ (BytesAt w la xs ∧ ∀ x ∈ xs, x ≤ 255) ∧ (xs.length : Int) ≤ 140737488355328 := open_bytes_of Tryd.underlying54 hv h hs
end
end Go.Proofs.YtfbafjlhdbjgoaaDoor
