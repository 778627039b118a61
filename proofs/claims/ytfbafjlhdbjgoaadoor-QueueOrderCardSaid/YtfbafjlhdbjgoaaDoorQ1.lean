/- The queue's own memory: its two maps, its tags. -/
import Derived.Test.YtfbafjlhdbjgoaaDoorB6
import Derived.Maps.OwnSet
import Derived.Maps.Keyed
namespace Go.Proofs.YtfbafjlhdbjgoaaDoor
set_option linter.unusedVariables false
set_option linter.unusedSimpArgs false
open Go.RowKit Go.Sort
set_option maxRecDepth 100000

/-- A map's element is read as itself. -/
def tokR (v : Value) : Option (DataW Value × List MemPlace) := some (.held v, [])
theorem key3 : Maps.Keyed Tryd.prog 3 := Maps.int_keyed Tryd.underlying3
theorem keyOf3 {k : Int} (h : (Lit.int .i64 k).wf = true) : keyOf Tryd.prog 3 (.int .i64 k) = some (.int .i64 k) := Maps.keyOf_int_mk Tryd.underlying3 h
theorem isKey3 (k : Int) : WideAt.IsKeyLit (.int .i64 k) := by simp [WideAt.IsKeyLit]
def cmdz : Cmd := ⟨0, 0, 0, false, ⟨#[]⟩, ⟨#[]⟩, 0, 0, none, 0, []⟩
theorem zero24 (w : World) : (zeroValue 24).run Tryd.prog w = .ok cmdz.val w := by rfl
theorem zero4 (w : World) : (zeroValue 4).run Tryd.prog w = .ok (.bool false) w := by rfl

/-- Block b is a map that holds f. -/
def MapIs (w : World) (z : Value) (b n : Nat) (f : Int → Option Value) : Prop :=
  ∃ D : DataW Value, w.ownsMap Tryd.prog 3 tokR b n D ∧ ∀ k : Int, Maps.has D (.int .i64 k) = (f k).isSome ∧ D.atKey (.int .i64 k) (.held z) = .held ((f k).getD z)

theorem MapIs.block {w w' : World} {z : Value} {b n : Nat} {f : Int → Option Value} (h : MapIs w z b n f) (e : w'.heap[b]? = w.heap[b]?) : MapIs w' z b n f := by
  obtain ⟨D, ⟨es, clock, hb, F, hs, hD⟩, hk⟩ := h
  exact ⟨D, ⟨es, clock, e.trans hb, F, hs, hD⟩, hk⟩
theorem MapIs.lt {w : World} {z : Value} {b n : Nat} {f : Int → Option Value} (h : MapIs w z b n f) : b < w.heap.size := by
  obtain ⟨D, h1, _⟩ := h
  exact h1.lt
theorem MapIs.raise {w : World} {z : Value} {b n n' : Nat} {f : Int → Option Value} (h : MapIs w z b n f) (hn : n ≤ n') : MapIs w z b n' f := by
  obtain ⟨D, h1, h2⟩ := h
  exact ⟨D, h1.mono hn, h2⟩
theorem MapIs.congr {w : World} {z : Value} {b n : Nat} {f g : Int → Option Value} (h : MapIs w z b n f) (e : ∀ k, f k = g k) : MapIs w z b n g := by
  have : f = g := funext e
  rwa [this] at h
theorem MapIs.made (w : World) (z : Value) : MapIs (w.alloc (.map #[] 0)) z w.heap.size 0 (fun _ => none) := by
  refine ⟨_, World.ownsMap_made w Tryd.prog 3 tokR, fun k => ⟨?_, ?_⟩⟩
  · simp [Maps.has_eq]
  · exact WideAt.atKey_none _ (fun p hp => by cases hp)
theorem MapIs.look2 {w : World} {z : Value} {b n : Nat} {f : Int → Option Value} {t e : TypeId} (h : MapIs w z b n f) (ht : Tryd.prog.underlying t = some (.map 3 e)) (hz : (zeroValue e).run Tryd.prog w = .ok z w) {k : Int} (hk : (Lit.int .i64 k).wf = true) :
    (Instr.lookup t (.map (some b)) (.int .i64 k) true).run Tryd.prog w = .ok (.tuple #[(f k).getD z, .bool (f k).isSome]) w := by
  obtain ⟨D, h1, h2⟩ := h
  obtain ⟨v, ps, hrun, hv⟩ := h1.look_ok key3 ht hz (zd := .held z) (zp := []) rfl (keyOf3 hk)
  rw [(h2 k).2] at hv
  simp [tokR] at hv
  rw [hrun, (h2 k).1, hv.1]
theorem MapIs.look1 {w : World} {z : Value} {b n : Nat} {f : Int → Option Value} {t e : TypeId} (h : MapIs w z b n f) (ht : Tryd.prog.underlying t = some (.map 3 e)) (hz : (zeroValue e).run Tryd.prog w = .ok z w) {k : Int} (hk : (Lit.int .i64 k).wf = true) :
    (Instr.lookup t (.map (some b)) (.int .i64 k) false).run Tryd.prog w = .ok ((f k).getD z) w := by
  obtain ⟨D, h1, h2⟩ := h
  obtain ⟨v, ps, hrun, hv⟩ := h1.lookup key3 ht hz (zd := .held z) (zp := []) rfl (keyOf3 hk)
  rw [(h2 k).2] at hv
  simp [tokR] at hv
  rw [hrun, hv.1]
theorem MapIs.store {w : World} {z : Value} {b n : Nat} {f : Int → Option Value} {t e : TypeId} (h : MapIs w z b n f) (ht : Tryd.prog.underlying t = some (.map 3 e)) (hn : n < maxLen) {k : Int} (hk : (Lit.int .i64 k).wf = true) (v : Value) :
    ∃ w', (Instr.mapUpdate t (.map (some b)) (.int .i64 k) v).run Tryd.prog w = .ok () w' ∧ MapIs w' z b (n + 1) (fun j => if j = k then some v else f j) ∧ w.mapTurned w' b := by
  obtain ⟨D, h1, h2⟩ := h
  obtain ⟨w', hrun, h3, h4⟩ := h1.store key3 ht hn (keyOf3 hk) (val := v) (d := .held v) (ps := []) rfl
  refine ⟨w', hrun, ⟨_, h3, fun j => ?_⟩, h4⟩
  dsimp only
  by_cases hj : j = k
  · subst hj
    rw [if_pos rfl, Maps.has_put_same h1.isMap (isKey3 j), Maps.atKey_put_same h1.isMap (isKey3 j)]
    exact ⟨rfl, rfl⟩
  · have hne : (Lit.int .i64 j) ≠ Lit.int .i64 k := fun e => hj (by injection e)
    rw [if_neg hj, Maps.has_put_other hne, Maps.atKey_put_other hne]
    exact h2 j
theorem MapIs.drop {w : World} {z : Value} {b n : Nat} {f : Int → Option Value} {t e : TypeId} (h : MapIs w z b n f) (ht : Tryd.prog.underlying t = some (.map 3 e)) {k : Int} (hk : (Lit.int .i64 k).wf = true) (ty : TypeId) :
    ∃ w', (Builtin.delete_ #[t, 3] ty #[.map (some b), .int .i64 k]).run Tryd.prog w = .ok (.tuple #[]) w' ∧ MapIs w' z b n (fun j => if j = k then none else f j) ∧ w.mapTurned w' b := by
  obtain ⟨D, h1, h2⟩ := h
  obtain ⟨w', hrun, h3, h4⟩ := h1.drop key3 ht (keyOf3 hk) ty
  refine ⟨w', hrun, ⟨_, h3, fun j => ?_⟩, h4⟩
  dsimp only
  by_cases hj : j = k
  · subst hj
    rw [if_pos rfl, Maps.has_del_same, Maps.atKey_del_same]
    exact ⟨rfl, rfl⟩
  · have hne : (Lit.int .i64 j) ≠ Lit.int .i64 k := fun e => hj (by injection e)
    rw [if_neg hj, Maps.has_del_other hne, Maps.atKey_del_other hne]
    exact h2 j

/-- Outside F the world w' is as w was. -/
structure Turn (F : Nat → Prop) (w w' : World) : Prop where
  os : w'.os = w.os
  tape : w'.tape = w.tape
  output : w'.output = w.output
  size : w.heap.size ≤ w'.heap.size
  block : ∀ k, k < w.heap.size → ¬ F k → w'.heap[k]? = w.heap[k]?
theorem Turn.refl (F : Nat → Prop) (w : World) : Turn F w w := ⟨rfl, rfl, rfl, Nat.le_refl _, fun _ _ _ => rfl⟩
theorem Turn.of_below {F : Nat → Prop} {w w' : World} (h : RowKit.Below w.heap.size w w') : Turn F w w' := ⟨h.os, h.tape, h.output, h.size, fun k hk _ => h.block k hk⟩
theorem Turn.trans {F G : Nat → Prop} {a b c : World} (h : Turn F a b) (k : Turn G b c) (hG : ∀ i, i < a.heap.size → G i → F i) : Turn F a c :=
  ⟨k.os.trans h.os, k.tape.trans h.tape, k.output.trans h.output, Nat.le_trans h.size k.size, fun i hi hF => (k.block i (Nat.lt_of_lt_of_le hi h.size) (fun hg => hF (hG i hi hg))).trans (h.block i hi hF)⟩
theorem Turn.below {F : Nat → Prop} {w w' : World} {B : Nat} (h : Turn F w w') (hB : B ≤ w.heap.size) (hF : ∀ i, F i → B ≤ i) : RowKit.Below B w w' :=
  ⟨h.os, h.tape, h.output, h.size, fun k hk => h.block k (Nat.lt_of_lt_of_le hk hB) (fun hf => Nat.not_le_of_lt hk (hF k hf))⟩
theorem Turn.of_map {w w' : World} {b : Nat} (h : w.mapTurned w' b) : Turn (fun k => k = b) w w' := by
  have hg := h.grown
  exact ⟨hg.os, hg.tape, hg.output, hg.size, fun k hk hne => hg.block k hk (fun e => hne (Option.some.inj e))⟩
theorem Turn.of_cell (w : World) (a : Addr) (v : Value) : Turn (fun k => k = a.block) w (w.setCell a v) :=
  ⟨rfl, rfl, rfl, by simp [World.setCell], fun k hk hne => RowKit.Below.heap_setCell w a v k hne⟩

abbrev QItem := Cmd × Bool
def tagsOf (its : List QItem) : List Int := its.map fun x => x.1.tag
/-- What a map of commands holds. -/
def cmdMap (its : List QItem) (k : Int) : Option Value := (its.find? fun x => x.1.tag == k).map fun x => x.1.val
def stMap (its : List QItem) (k : Int) : Option Value := (its.find? fun x => x.1.tag == k && x.2).map fun _ => .bool true
/-- The blocks that are the queue's own to write. -/
def QF (q m1 m2 : Nat) (tv : Value) (k : Nat) : Prop := k = q ∨ k = m1 ∨ k = m2 ∨ tv.ownBlock = some k
/-- At block q lies a queue of these commands. -/
structure QAt (w : World) (q m1 m2 n : Nat) (tv : Value) (its : List QItem) : Prop where
  box : w.heap[q]? = some (.cells #[tv, .map (some m1), .map (some m2)] 68 (0, 0))
  tags : w.ownsRow 0 3 1 tv (tagsOf its).length ((tagsOf its).map (Value.int .i64))
  cm : MapIs w cmdz.val m1 n (cmdMap its)
  st : MapIs w (.bool false) m2 n (stMap its)
  ne : m1 ≠ m2
  tq : tv.ownBlock ≠ some q
  ok : ∀ x ∈ its, CmdOk w x.1 ∧ (Lit.int .i64 x.1.tag).wf = true
  apart : ∀ x ∈ its, ∀ b o, 0 < x.1.bs.length → x.1.da = some ⟨b, o, none⟩ → ¬ QF q m1 m2 tv b
  nod : (tagsOf its).Nodup
theorem QAt.q0 {w : World} {q m1 m2 n : Nat} {tv : Value} {its : List QItem} (h : QAt w q m1 m2 n tv its) : w.cell? ⟨q, 0, none⟩ = some tv := by
  rw [World.cell?, h.box]; rfl
theorem QAt.q1 {w : World} {q m1 m2 n : Nat} {tv : Value} {its : List QItem} (h : QAt w q m1 m2 n tv its) : w.cell? ⟨q, 1, none⟩ = some (.map (some m1)) := by
  rw [World.cell?, h.box]; rfl
theorem QAt.q2 {w : World} {q m1 m2 n : Nat} {tv : Value} {its : List QItem} (h : QAt w q m1 m2 n tv its) : w.cell? ⟨q, 2, none⟩ = some (.map (some m2)) := by
  rw [World.cell?, h.box]; rfl
theorem QAt.free {w : World} {q m1 m2 n : Nat} {tv : Value} {its : List QItem} (h : QAt w q m1 m2 n tv its) (o : Nat) : w.frozen? ⟨q, o, none⟩ = false := by
  simp [World.frozen?, h.box]
theorem QAt.qlt {w : World} {q m1 m2 n : Nat} {tv : Value} {its : List QItem} (h : QAt w q m1 m2 n tv its) : q < w.heap.size := by
  rcases Nat.lt_or_ge q w.heap.size with hlt | hge
  · exact hlt
  · have := h.box; rw [Array.getElem?_eq_none hge] at this; cases this
/-- A world that is as it was at the queue's own blocks and at what its commands' data are. -/
theorem QAt.grow {w w' : World} {q m1 m2 n : Nat} {tv : Value} {its : List QItem} (h : QAt w q m1 m2 n tv its) (hb : RowKit.Below w.heap.size w w') : QAt w' q m1 m2 n tv its :=
  ⟨(hb.block q h.qlt).trans h.box, own_below h.tags hb, h.cm.block (hb.block m1 h.cm.lt), h.st.block (hb.block m2 h.st.lt), h.ne, h.tq, fun x hx => ⟨(h.ok x hx).1.mono hb, (h.ok x hx).2⟩, h.apart, h.nod⟩
end Go.Proofs.YtfbafjlhdbjgoaaDoor
