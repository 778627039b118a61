/- A queue while other blocks are written. -/
import Derived.Test.YtfbafjlhdbjgoaaDoorQ14
namespace Go.Proofs.YtfbafjlhdbjgoaaDoor
set_option linter.unusedVariables false
set_option linter.unusedSimpArgs false
open Go.RowKit Go.Sort
set_option maxRecDepth 100000

theorem QAt.keep {F : Nat → Prop} {w w' : World} {q m1 m2 n : Nat} {tv : Value} {its : List QItem} (h : QAt w q m1 m2 n tv its) (ht : Turn F w w') (hF : ∀ k, F k → ¬ QF q m1 m2 tv k)
    (hD : ∀ x ∈ its, ∀ b o, 0 < x.1.bs.length → x.1.da = some ⟨b, o, none⟩ → ¬ F b) : QAt w' q m1 m2 n tv its := by
  obtain ⟨p1, p2, p3, p4, p5⟩ := h.parts
  exact ⟨(ht.block q h.qlt (fun hf => hF q hf (Or.inl rfl))).trans h.box, ownsRow_block h.tags (fun k hk => ht.block k (p5 k hk) (fun hf => hF k hf (Or.inr (Or.inr (Or.inr hk))))),
    h.cm.block (ht.block m1 h.cm.lt (fun hf => hF m1 hf (Or.inr (Or.inl rfl)))), h.st.block (ht.block m2 h.st.lt (fun hf => hF m2 hf (Or.inr (Or.inr (Or.inl rfl))))), h.ne, h.tq,
    fun x hx => ⟨(h.ok x hx).1.turn ht (fun b o hl e => hD x hx b o hl e), (h.ok x hx).2⟩, h.apart, h.nod⟩

/-- The blocks' first bytes, one more each, up to block k. -/
def bump (x : B8) : B8 := { x with x0 := IntKind.u8.wrap (x.x0 + 1) }
def bumpTo (bs : List B8) (k : Nat) : List B8 := (bs.take k).map bump ++ bs.drop k
end Go.Proofs.YtfbafjlhdbjgoaaDoor
