/- A list of commands that the call itself makes. -/
import Derived.Test.YtfbafjlhdbjgoaaDoorQ17
import Derived.Deep.AppendLies
namespace Go.Proofs.YtfbafjlhdbjgoaaDoor
set_option linter.unusedVariables false
set_option linter.unusedSimpArgs false
open Go.RowKit Go.Sort
set_option maxRecDepth 100000

def c9 (c : Cmd) : List Value := [.int .i64 c.tag, .int .i64 c.kind, .int .i64 c.ord, .bool c.force, .string c.vol, .string c.oth, .int .i64 c.pos, .int .i64 c.len, .slice c.da c.bs.length c.dc]
def flat9 (cs : List Cmd) : List Value := cs.flatMap c9
theorem c9_len (c : Cmd) : (c9 c).length = 9 := rfl
theorem flat9_len : ∀ cs : List Cmd, (flat9 cs).length = cs.length * 9
  | [] => rfl
  | x :: cs => by
    have := flat9_len cs
    simp only [flat9, List.flatMap_cons, List.length_append, List.length_cons] at *
    rw [this, c9_len]; omega
theorem flat9_at : ∀ (cs : List Cmd) (i k : Nat) (x : Cmd), cs[i]? = some x → k < 9 → (flat9 cs)[i * 9 + k]? = (c9 x)[k]?
  | [], i, k, x, h, _ => by simp at h
  | y :: cs, 0, k, x, h, hk => by
    have : y = x := by simpa using h
    subst this
    simp only [flat9, List.flatMap_cons]
    rw [List.getElem?_append_left (by rw [c9_len]; omega)]
    simp
  | y :: cs, i + 1, k, x, h, hk => by
    have ih := flat9_at cs i k x (by simpa using h) hk
    simp only [flat9, List.flatMap_cons] at *
    rw [List.getElem?_append_right (by rw [c9_len]; omega), ← ih]
    congr 1
    rw [c9_len]; omega
theorem flat9_push (cs : List Cmd) (c : Cmd) : flat9 (cs ++ [c]) = flat9 cs ++ c9 c := by simp [flat9]
theorem c9_one (c : Cmd) : ∀ u ∈ c9 c, u.oneCell' = true := by
  intro u hu
  simp only [c9, List.mem_cons, List.mem_nil_iff, or_false] at hu
  rcases hu with rfl | rfl | rfl | rfl | rfl | rfl | rfl | rfl | rfl <;> rfl
theorem info24 : (Tryd.prog.info? 24).map (fun i => (i.zero.map fun z => z.cells, i.size, i.bytes)) = some (some #[.int .i64 0, .int .i64 0, .int .i64 0, .bool false, .string ⟨#[]⟩, .string ⟨#[]⟩, .int .i64 0, .int .i64 0, .slice none 0 0], 9, 104) := by kernel_rfl
theorem info24z : ∃ i0 z, Tryd.prog.info? 24 = some i0 ∧ i0.zero = some z ∧ i0.size = 9 ∧ i0.bytes = 104 ∧ z.cells.size = 9 := by
  have h := info24
  obtain ⟨i0, hi⟩ : ∃ i0, Tryd.prog.info? 24 = some i0 := by
    cases hx : Tryd.prog.info? 24 with
    | none => rw [hx] at h; cases h
    | some i0 => exact ⟨i0, rfl⟩
  rw [hi] at h
  simp only [Option.map_some, Option.some.injEq, Prod.mk.injEq] at h
  obtain ⟨hz, hs, hb⟩ := h
  obtain ⟨z, hz0, hz1⟩ := Option.map_eq_some_iff.1 hz
  exact ⟨i0, z, hi, hz0, hs, hb, by rw [hz1]; rfl⟩

/-- A row of commands of the call's own, from block B on, their data elsewhere. -/
structure OwnC (B : Nat) (w3 : World) (out : Value) (cs : List Cmd) (wr : World) : Prop where
  own : wr.ownsRow B 24 9 out cs.length (flat9 cs)
  bel : RowKit.Below B w3 wr
  size : B ≤ w3.heap.size
  ok : ∀ c ∈ cs, CmdOk wr c ∧ ∀ b o, 0 < c.bs.length → c.da = some ⟨b, o, none⟩ → out.ownBlock ≠ some b
theorem OwnC.start (w3 : World) : OwnC w3.heap.size w3 (.slice none 0 0) [] w3 := ⟨World.ownsRow_nil _ _ _ _, RowKit.Below.refl _ _, Nat.le_refl _, fun c hc => (by cases hc)⟩
theorem OwnC.grow {B : Nat} {w3 wr w' : World} {out : Value} {cs : List Cmd} (h : OwnC B w3 out cs wr) (hb : RowKit.Below wr.heap.size wr w') : OwnC B w3 out cs w' :=
  ⟨own_below h.own hb, h.bel.trans (hb.mono (Nat.le_trans h.size h.bel.size)), h.size, fun c hc => ⟨(h.ok c hc).1.mono hb, (h.ok c hc).2⟩⟩
/-- .. while other blocks are written. -/
theorem OwnC.turn {F : Nat → Prop} {B : Nat} {w3 wr w' : World} {out : Value} {cs : List Cmd} (h : OwnC B w3 out cs wr) (ht : Turn F wr w') (hF : ∀ k, F k → B ≤ k) (hn : ∀ k, F k → out.ownBlock ≠ some k)
    (hd : ∀ c ∈ cs, ∀ b o, 0 < c.bs.length → c.da = some ⟨b, o, none⟩ → ¬ F b) : OwnC B w3 out cs w' :=
  ⟨ownsRow_block h.own (fun k hk => ht.block k (h.own.lt k hk).2 (fun hf => hn k hf hk)), h.bel.trans (ht.below (Nat.le_trans h.size h.bel.size) hF), h.size, fun c hc => ⟨(h.ok c hc).1.turn ht (hd c hc), (h.ok c hc).2⟩⟩
theorem OwnC.add {B gg cap : Nat} {w3 wr w2 : World} {out : Value} {cs : List Cmd} {c : Cmd} {o : Obj} (h : OwnC B w3 out cs wr)
    (hown' : w2.ownsRow B 24 9 (.slice (some ⟨gg, 0, none⟩) (cs.length + 1) cap) (cs.length + 1) (flat9 cs ++ c9 c)) (hgrow : (wr.alloc o).grownBy w2 out.ownBlock) (hat : out.ownBlock = some gg ∨ gg = wr.heap.size + 1)
    (hok : CmdOk wr c) (hfr : ∀ b o, 0 < c.bs.length → c.da = some ⟨b, o, none⟩ → out.ownBlock ≠ some b) : OwnC B w3 (.slice (some ⟨gg, 0, none⟩) (cs.length + 1) cap) (cs ++ [c]) w2 := by
  have hs : B ≤ wr.heap.size := Nat.le_trans h.size h.bel.size
  have hsz : (wr.alloc o).heap.size = wr.heap.size + 1 := by simp
  have hT : Turn (fun k => out.ownBlock = some k) wr w2 := ⟨hgrow.os, hgrow.tape, hgrow.output, by have := hgrow.size; omega, fun k hk hne => (hgrow.block k (by omega) (fun e => hne e.symm)).trans (RowKit.Below.heap_alloc wr o k hk)⟩
  have key : ∀ d : Cmd, CmdOk wr d → (∀ b o, 0 < d.bs.length → d.da = some ⟨b, o, none⟩ → out.ownBlock ≠ some b) → CmdOk w2 d ∧ ∀ b o, 0 < d.bs.length → d.da = some ⟨b, o, none⟩ → (Value.slice (some ⟨gg, 0, none⟩) (cs.length + 1) cap).ownBlock ≠ some b := fun d h1 h2 => by
    refine ⟨h1.turn hT (fun b o hl e hb => h2 b o hl e hb), fun b o hl e hb => ?_⟩
    injection hb with hb
    have hb : gg = b := hb
    subst hb
    rcases hat with h3 | h3
    · exact h2 gg o hl e h3
    · have := dat_lt h1.dat hl e; omega
  refine ⟨by rw [List.length_append, flat9_push]; exact hown', ?_, h.size, fun d hd => ?_⟩
  · exact (h.bel.alloc hs o).grown hgrow (by simp; omega) (fun j hj => (h.own.lt j hj).1)
  · rw [List.mem_append] at hd
    rcases hd with hd | hd
    · exact key d (h.ok d hd).1 (h.ok d hd).2
    · rw [List.mem_singleton] at hd
      subst hd
      exact key d hok hfr
theorem OwnC.cmds {B : Nat} {w3 wr : World} {out : Value} {cs : List Cmd} (h : OwnC B w3 out cs wr) : ∃ a c, out = .slice a cs.length c ∧ Cmds wr a cs := by
  obtain ⟨hl, hh | ⟨g, cap, cur, e, hb, hh, hc, hm, ht⟩⟩ := h.own
  · obtain ⟨e1, e2⟩ := hh
    have h0 : cs.length = 0 := by have := flat9_len cs; rw [e2] at this; simp at this; omega
    rw [h0]
    exact ⟨none, 0, e1, fun i c hc => (h.ok c (List.mem_of_getElem? hc)).1, fun hp => absurd hp (by omega)⟩
  · refine ⟨_, cap, e, fun i c hc => (h.ok c (List.mem_of_getElem? hc)).1, fun _ => ⟨g, 0, rfl, fun i x hx => ?_⟩⟩
    have hi : i < cs.length := (List.getElem?_eq_some_iff.1 hx).1
    have key : ∀ k, k < 9 → wr.cell? ⟨g, 0 + i * 9 + k, none⟩ = (c9 x)[k]? := fun k hk => by
      have := World.ownsRow.cellAt (w := wr) (base := 0) (e := 24) (size := 9) (g := g) (n := cs.length) (cap := cap) (xs := flat9 cs) ⟨hl, .inr ⟨g, cap, cur, rfl, Nat.zero_le _, hh, hc, hm, ht⟩⟩ (i * 9 + k) (by omega)
      rw [show 0 + i * 9 + k = i * 9 + k by omega, this]
      exact flat9_at cs i k x hx hk
    exact ⟨key 0 (by omega), key 1 (by omega), key 2 (by omega), key 3 (by omega), key 4 (by omega), key 5 (by omega), key 6 (by omega), key 7 (by omega), key 8 (by omega)⟩

/-- Append of a command to such a row. -/
theorem wpList_append_cmd {ops : Array Oper} {rest : List Oper} {o : Oper} {a : Act} {Q : Exit → Act → World → Prop} {B : Nat} {w3 wr : World} {out : Value} {cs : List Cmd} (h : OwnC B w3 out cs wr) (c : Cmd) (hok : CmdOk wr c)
    (hfr : ∀ b o, 0 < c.bs.length → c.da = some ⟨b, o, none⟩ → out.ownBlock ≠ some b) (hm : cs.length ≤ 1000000) (hgd : o.guard = none) (s x : Operand)
    (ho : o.op = .call { callee := .builtin .append, args := #[s, x], argTypes := #[27, 27] }) (hs : a.eval s = out) (H : Nat) (hH : wr.heap.size = H) (hx : a.eval x = .slice (some ⟨H, 0, none⟩) 1 1)
    (hk : ∀ v' w', OwnC B w3 v' (cs ++ [c]) w' → (∀ k, v'.ownBlock = some k → out.ownBlock = some k ∨ wr.heap.size ≤ k) → Turn (fun k => out.ownBlock = some k) wr w' → wpList Tryd.prog ops Q rest (a.put o.dst v') w') :
    wpList Tryd.prog ops Q (o :: rest) a (wr.alloc (.cells #[.int .i64 c.tag, .int .i64 c.kind, .int .i64 c.ord, .bool c.force, .string c.vol, .string c.oth, .int .i64 c.pos, .int .i64 c.len, .slice c.da c.bs.length c.dc] 24)) := by
  obtain ⟨i0, z, hi, hz0, hz1, hz2, hzs⟩ := info24z
  subst hH
  have hs' : B ≤ wr.heap.size := Nat.le_trans h.size h.bel.size
  refine wpList_append_lies _ hgd s x 27 ho B 24 i0 z 9 104 Tryd.underlying27 hi hz0 hz1 hz2 hzs (by decide) out cs.length (flat9 cs) hs (h.own.alloc _) ⟨wr.heap.size, 0, none⟩ 1 1 (c9 c) hx rfl (World.news_of_block (heap_alloc_new wr _)) (c9_one c) (by omega) (by unfold maxLen; omega) (by omega) (by simp; omega) (wr.heap.size + 1) (by simp) fun gg cap w' h2 h3 h4 h5 => ?_
  refine hk _ w' (h.add h2 h3 h4 hok hfr) (fun k hk => ?_) ?_
  · injection hk with hk
    have hk : gg = k := hk
    subst hk
    exact h4.imp id (fun e => by omega)
  · have hsz : (wr.alloc (.cells #[.int .i64 c.tag, .int .i64 c.kind, .int .i64 c.ord, .bool c.force, .string c.vol, .string c.oth, .int .i64 c.pos, .int .i64 c.len, .slice c.da c.bs.length c.dc] 24)).heap.size = wr.heap.size + 1 := by simp
    exact ⟨h3.os, h3.tape, h3.output, by have := h3.size; omega, fun k hk hne => (h3.block k (by omega) (fun e => hne e.symm)).trans (RowKit.Below.heap_alloc wr _ k hk)⟩
end Go.Proofs.YtfbafjlhdbjgoaaDoor
