/- New and Submit of the queue. -/
import Derived.Test.YtfbafjlhdbjgoaaDoorQ7
import Derived.Deep.RegionHeld3
import Derived.Deep.AppendLies
namespace Go.Proofs.YtfbafjlhdbjgoaaDoor
set_option linter.unusedVariables false
set_option linter.unusedSimpArgs false
open Go.RowKit Go.Sort
set_option maxRecDepth 100000

theorem new_any (w : World) : Calls Tryd.prog 29 #[] w fun e w' => (∃ q m1 m2, e = .returned (.pointer (some ⟨q, 0, none⟩)) ∧ QAt w' q m1 m2 0 (.slice none 0 0) [] ∧ w.heap.size ≤ q ∧ w.heap.size ≤ m1 ∧ w.heap.size ≤ m2) ∧ RowKit.Below w.heap.size w w' := by
  have hm65 : ∀ w, (Instr.makeMap 65 none).run Tryd.prog w = .ok (.map (some w.heap.size)) (w.alloc (.map #[] 0)) := run_makeMap 65
  have hm66 : ∀ w, (Instr.makeMap 66 none).run Tryd.prog w = .ok (.map (some w.heap.size)) (w.alloc (.map #[] 0)) := run_makeMap 66
  go_enter Tryd.func29, Tryd.ntmps29
  go_wp2
  go_ret
  have hb1 : RowKit.Below (w.alloc (.map #[] 0)).heap.size (w.alloc (.map #[] 0)) ((w.alloc (.map #[] 0)).alloc (.map #[] 0)) := (RowKit.Below.refl _ _).alloc (Nat.le_refl _) _
  have hb2 : RowKit.Below ((w.alloc (.map #[] 0)).alloc (.map #[] 0)).heap.size ((w.alloc (.map #[] 0)).alloc (.map #[] 0)) (((w.alloc (.map #[] 0)).alloc (.map #[] 0)).alloc (.cells #[.slice none 0 0, .map (some w.heap.size), .map (some (w.heap.size + 1))] 68)) := (RowKit.Below.refl _ _).alloc (Nat.le_refl _) _
  have hs1 := size_alloc1 w (.map #[] 0)
  have hs2 := size_alloc1 (w.alloc (.map #[] 0)) (.map #[] 0)
  refine ⟨⟨w.heap.size + 2, w.heap.size, w.heap.size + 1, rfl, ?_, by omega, Nat.le_refl _, by omega⟩, ?_⟩
  · refine ⟨?_, World.ownsRow_nil _ _ _ _, ?_, ?_, by omega, by simp [Value.ownBlock], fun x hx => (by cases hx), fun x hx => (by cases hx), List.nodup_nil⟩
    · rw [show w.heap.size + 2 = ((w.alloc (.map #[] 0)).alloc (.map #[] 0)).heap.size by omega]
      exact heap_alloc_new _ _
    · have h1 := MapIs.made w cmdz.val
      have h2 := h1.block (hb1.block _ (by omega))
      have h3 := h2.block (hb2.block _ (by omega))
      exact h3.congr fun k => rfl
    · have h1 := MapIs.made (w.alloc (.map #[] 0)) (.bool false)
      rw [← hs1] at h1
      have h3 := h1.block (hb2.block _ (by omega))
      exact h3.congr fun k => rfl
  · exact (((RowKit.Below.refl _ _).alloc (Nat.le_refl _) _).alloc (by omega) _).alloc (by omega) _

theorem Dat.turn {F : Nat → Prop} {w w' : World} {da : Option Addr} {bs : List B8} (h : Dat w da bs) (ht : Turn F w w') (hF : ∀ b o, 0 < bs.length → da = some ⟨b, o, none⟩ → ¬ F b) : Dat w' da bs := fun hl => by
  obtain ⟨b, o, e, hc⟩ := h hl
  refine ⟨b, o, e, fun i x hx => ?_⟩
  have h0 := hc i x hx
  have hb : w'.heap[b]? = w.heap[b]? := ht.block b (block_lt_of_cell h0.1) (hF b o hl e)
  have k : ∀ j, w'.cell? ⟨b, j, none⟩ = w.cell? ⟨b, j, none⟩ := fun j => World.cell?_of_block (w := w) hb
  obtain ⟨h0, h1, h2, h3, h4, h5, h6, h7⟩ := h0
  exact ⟨(k _).trans h0, (k _).trans h1, (k _).trans h2, (k _).trans h3, (k _).trans h4, (k _).trans h5, (k _).trans h6, (k _).trans h7⟩
theorem CmdOk.turn {F : Nat → Prop} {w w' : World} {c : Cmd} (h : CmdOk w c) (ht : Turn F w w') (hF : ∀ b o, 0 < c.bs.length → c.da = some ⟨b, o, none⟩ → ¬ F b) : CmdOk w' c := ⟨h.dat.turn ht hF, h.len, h.vs, h.os⟩
theorem dat_lt {w : World} {da : Option Addr} {bs : List B8} (h : Dat w da bs) {b o : Nat} (hl : 0 < bs.length) (e : da = some ⟨b, o, none⟩) : b < w.heap.size := by
  obtain ⟨b', o', e', hc⟩ := h hl
  rw [e] at e'
  injection e' with e'
  injection e' with e1 _
  subst e1
  exact block_lt_of_cell (hc 0 _ (List.getElem?_eq_getElem hl)).1
/-- The queue behind a call that has written its own blocks alone. -/
theorem QAt.next {w w' : World} {q m1 m2 n n' : Nat} {tv tv' : Value} {its its' : List QItem} (h : QAt w q m1 m2 n tv its) (ht : Turn (QF q m1 m2 tv) w w')
    (box : w'.heap[q]? = some (.cells #[tv', .map (some m1), .map (some m2)] 68 (0, 0))) (tags : w'.ownsRow 0 3 1 tv' (tagsOf its').length ((tagsOf its').map (Value.int .i64)))
    (cm : MapIs w' cmdz.val m1 n' (cmdMap its')) (st : MapIs w' (.bool false) m2 n' (stMap its')) (tq : tv'.ownBlock ≠ some q)
    (new : ∀ x ∈ its', (∃ y ∈ its, x.1 = y.1) ∨ (CmdOk w' x.1 ∧ (Lit.int .i64 x.1.tag).wf = true ∧ ∀ b o, 0 < x.1.bs.length → x.1.da = some ⟨b, o, none⟩ → ¬ QF q m1 m2 tv' b))
    (hF : ∀ k, k < w.heap.size → QF q m1 m2 tv' k → QF q m1 m2 tv k) (nod : (tagsOf its').Nodup) : QAt w' q m1 m2 n' tv' its' := by
  refine ⟨box, tags, cm, st, h.ne, tq, fun x hx => ?_, fun x hx b o hl e => ?_, nod⟩
  · rcases new x hx with ⟨y, hy, e⟩ | h1
    · rw [e]
      exact ⟨(h.ok y hy).1.turn ht (fun b o hl e => h.apart y hy b o hl e), (h.ok y hy).2⟩
    · exact ⟨h1.1, h1.2.1⟩
  · rcases new x hx with ⟨y, hy, e1⟩ | h1
    · rw [e1] at hl e
      exact fun hq => h.apart y hy b o hl e (hF b (dat_lt (h.ok y hy).1.dat hl e) hq)
    · exact h1.2.2 b o hl e
/-- The four own blocks are four. -/
theorem QAt.parts {w : World} {q m1 m2 n : Nat} {tv : Value} {its : List QItem} (h : QAt w q m1 m2 n tv its) : q ≠ m1 ∧ q ≠ m2 ∧ tv.ownBlock ≠ some m1 ∧ tv.ownBlock ≠ some m2 ∧ ∀ k, tv.ownBlock = some k → k < w.heap.size := by
  obtain ⟨D1, ⟨es1, c1, hb1, _⟩, _⟩ := h.cm
  obtain ⟨D2, ⟨es2, c2, hb2, _⟩, _⟩ := h.st
  have hbx := h.box
  have key : ∀ k, tv.ownBlock = some k → ∃ cs fr, w.heap[k]? = some (.cells cs 3 fr) := fun k hk => by
    obtain ⟨_, ⟨e, _⟩ | ⟨g, cap, cur, e, _, hh, _⟩⟩ := h.tags
    · rw [e] at hk; cases hk
    · rw [e] at hk
      injection hk with hk
      subst hk
      exact ⟨cur, _, hh⟩
  refine ⟨fun e => ?_, fun e => ?_, fun e => ?_, fun e => ?_, fun k hk => ?_⟩
  · rw [e, hb1] at hbx; cases hbx
  · rw [e, hb2] at hbx; cases hbx
  · obtain ⟨cs, fr, hh⟩ := key _ e
    rw [hb1] at hh; cases hh
  · obtain ⟨cs, fr, hh⟩ := key _ e
    rw [hb2] at hh; cases hh
  · obtain ⟨cs, fr, hh⟩ := key k hk
    rcases Nat.lt_or_ge k w.heap.size with h | h
    · exact h
    · rw [Array.getElem?_eq_none h] at hh; cases hh
theorem ownsRow_block {w w' : World} {base e size n : Nat} {v : Value} {xs : List Value} (h : w.ownsRow base e size v n xs) (hb : ∀ k, v.ownBlock = some k → w'.heap[k]? = w.heap[k]?) : w'.ownsRow base e size v n xs := by
  obtain ⟨hl, h | ⟨g, cap, cur, e1, hg, hh, r⟩⟩ := h
  · exact ⟨hl, .inl h⟩
  · exact ⟨hl, .inr ⟨g, cap, cur, e1, hg, (hb g (by rw [e1]; rfl)).trans hh, r⟩⟩
theorem cmdMap_push {its : List QItem} {c : Cmd} {b : Bool} (h : hasTag its c.tag = false) (j : Int) : (if j = c.tag then some c.val else cmdMap its j) = cmdMap (its ++ [(c, b)]) j := by
  unfold cmdMap
  rw [List.find?_append]
  by_cases hj : j = c.tag
  · subst hj
    have : its.find? (fun x => x.1.tag == c.tag) = none := by
      have := find_hasTag its c.tag
      rw [h] at this
      simpa using this
    rw [if_pos rfl, this]
    simp
  · rw [if_neg hj]
    cases its.find? (fun x => x.1.tag == j) with
    | some x => rfl
    | none =>
      have hne : ¬ c.tag = j := fun e => hj e.symm
      simp [hne]
theorem stMap_push {its : List QItem} {c : Cmd} (j : Int) : stMap its j = stMap (its ++ [(c, false)]) j := by
  unfold stMap
  rw [List.find?_append]
  cases its.find? (fun x => x.1.tag == j && x.2) with
  | some x => rfl
  | none => simp

/-- Behind 'q.tags = append(q.tags, c.Tag)'. -/
structure Mid (w : World) (q m1 m2 n : Nat) (tv : Value) (its : List QItem) (c : Cmd) (gg cap : Nat) (w5 : World) : Prop where
  turn : Turn (QF q m1 m2 tv) w w5
  box : w5.heap[q]? = some (.cells #[.slice (some ⟨gg, 0, none⟩) ((tagsOf its).length + 1) cap, .map (some m1), .map (some m2)] 68 (0, 0))
  own : w5.ownsRow 0 3 1 (.slice (some ⟨gg, 0, none⟩) ((tagsOf its).length + 1) cap) ((tagsOf its).length + 1) ((tagsOf its).map (Value.int .i64) ++ [.int .i64 c.tag])
  cm : MapIs w5 cmdz.val m1 n (cmdMap its)
  st : MapIs w5 (.bool false) m2 n (stMap its)
  cbox : w5.heap[w.heap.size]? = some (.cells c.arr 24 (0, 0))
  gq : gg ≠ q
  g1 : gg ≠ m1
  g2 : gg ≠ m2
  gold : gg < w.heap.size → tv.ownBlock = some gg
theorem Mid.mk' {w w3 w4 : World} {q m1 m2 n : Nat} {tv : Value} {its : List QItem} {c : Cmd} {gg cap : Nat} {o : Obj} (h : QAt w q m1 m2 n tv its) (hB : RowKit.Below w.heap.size w w3) (hbx : w3.heap[w.heap.size]? = some (.cells c.arr 24 (0, 0))) (hs : w.heap.size < w3.heap.size)
    (hown : w4.ownsRow 0 3 1 (.slice (some ⟨gg, 0, none⟩) ((tagsOf its).length + 1) cap) ((tagsOf its).length + 1) ((tagsOf its).map (Value.int .i64) ++ [.int .i64 c.tag])) (hg : (w3.alloc o).drew.grownBy w4 tv.ownBlock) (hat : tv.ownBlock = some gg ∨ gg = w3.heap.size + 1) :
    Mid w q m1 m2 n tv its c gg cap (w4.setCell ⟨q, 0, none⟩ (.slice (some ⟨gg, 0, none⟩) ((tagsOf its).length + 1) cap)) := by
  obtain ⟨p1, p2, p3, p4, p5⟩ := h.parts
  have hblk : ∀ k, k < w3.heap.size → tv.ownBlock ≠ some k → w4.heap[k]? = w3.heap[k]? := fun k hk hne => by
    rw [hg.block k (by show k < (w3.alloc o).heap.size; simp; omega) (fun e => hne e.symm)]
    exact RowKit.Below.heap_alloc w3 o k hk
  have hsz : w3.heap.size ≤ w4.heap.size := by
    have h1 : (w3.alloc o).heap.size ≤ w4.heap.size := hg.size
    have := size_alloc1 w3 o
    omega
  have hq3 : q < w3.heap.size := Nat.lt_of_lt_of_le h.qlt hB.size
  have hm1 := Nat.lt_of_lt_of_le h.cm.lt hB.size
  have hm2 := Nat.lt_of_lt_of_le h.st.lt hB.size
  have gq : gg ≠ q := fun e => by
    rcases hat with h1 | h1
    · exact h.tq (e ▸ h1)
    · omega
  have g1 : gg ≠ m1 := fun e => by
    rcases hat with h1 | h1
    · exact p3 (e ▸ h1)
    · omega
  have g2 : gg ≠ m2 := fun e => by
    rcases hat with h1 | h1
    · exact p4 (e ▸ h1)
    · omega
  have h3 := h.grow hB
  have hset : ∀ k, k ≠ q → (w4.setCell ⟨q, 0, none⟩ (.slice (some ⟨gg, 0, none⟩) ((tagsOf its).length + 1) cap)).heap[k]? = w4.heap[k]? := fun k hk => RowKit.Below.heap_setCell w4 ⟨q, 0, none⟩ _ k hk
  have hcb : tv.ownBlock ≠ some w.heap.size := fun e => by have := p5 _ e; omega
  have hcq : w.heap.size ≠ q := by have := h.qlt; omega
  refine ⟨?_, ?_, ?_, ?_, ?_, ?_, gq, g1, g2, fun hlt => ?_⟩
  · refine ⟨?_, ?_, ?_, ?_, fun k hk hF => ?_⟩
    · exact (show w4.os = w3.os from hg.os).trans hB.os
    · exact (show w4.tape = w3.tape from hg.tape).trans hB.tape
    · exact (show w4.output = w3.output from hg.output).trans hB.output
    · have : (w4.setCell ⟨q, 0, none⟩ (.slice (some ⟨gg, 0, none⟩) ((tagsOf its).length + 1) cap)).heap.size = w4.heap.size := by simp [World.setCell]
      rw [this]; exact Nat.le_trans hB.size hsz
    · rw [hset k (fun e => hF (Or.inl e)), hblk k (Nat.lt_of_lt_of_le hk hB.size) (fun e => hF (Or.inr (Or.inr (Or.inr e))))]
      exact hB.block k hk
  · exact set_row ((hblk q hq3 h.tq).trans h3.box) 0 _
  · exact ownsRow_block hown (fun k hk => by injection hk with hk; subst hk; exact hset _ gq)
  · exact h3.cm.block ((hset m1 (Ne.symm p1)).trans (hblk m1 hm1 p3))
  · exact h3.st.block ((hset m2 (Ne.symm p2)).trans (hblk m2 hm2 p4))
  · exact ((hset _ hcq).trans (hblk _ hs hcb)).trans hbx
  · rcases hat with h1 | h1
    · exact h1
    · have := hB.size; omega
/-- .. and behind 'q.commands[c.Tag] = duplicate(c)'. -/
theorem Mid.done {w w5 w6 w7 : World} {q m1 m2 n : Nat} {tv : Value} {its : List QItem} {c : Cmd} {gg cap : Nat} {da : Option Addr} {dc : Nat} (h : QAt w q m1 m2 n tv its) (hm : Mid w q m1 m2 n tv its c gg cap w5) (hB : RowKit.Below w5.heap.size w5 w6) (hwf : (Lit.int .i64 c.tag).wf = true) (ht : hasTag its c.tag = false)
    (hok : CmdOk w6 (c.re da dc)) (hfr : ∀ b o, da = some ⟨b, o, none⟩ → w5.heap.size ≤ b) (hmap : MapIs w7 cmdz.val m1 (n + 1) (fun j => if j = c.tag then some (c.re da dc).val else cmdMap its j)) (hturn : w6.mapTurned w7 m1) :
    QAt w7 q m1 m2 (n + 1) (.slice (some ⟨gg, 0, none⟩) ((tagsOf its).length + 1) cap) (its ++ [(c.re da dc, false)]) ∧ Turn (QF q m1 m2 tv) w w7 ∧ ∀ k, QF q m1 m2 (.slice (some ⟨gg, 0, none⟩) ((tagsOf its).length + 1) cap) k → QF q m1 m2 tv k ∨ w.heap.size ≤ k := by
  obtain ⟨p1, p2, p3, p4, p5⟩ := h.parts
  have h67 := Turn.of_map hturn
  have t6 : Turn (QF q m1 m2 tv) w w6 := hm.turn.trans (Turn.of_below (F := fun _ => False) hB) (fun _ _ hf => hf.elim)
  have t7 : Turn (QF q m1 m2 tv) w w7 := t6.trans h67 (fun i _ e => Or.inr (Or.inl e))
  have hb7 : ∀ k, k < w5.heap.size → k ≠ m1 → w7.heap[k]? = w5.heap[k]? := fun k hk hne => (h67.block k (Nat.lt_of_lt_of_le hk hB.size) hne).trans (hB.block k hk)
  have hq5 : q < w5.heap.size := Nat.lt_of_lt_of_le h.qlt hm.turn.size
  have hg5 : gg < w5.heap.size := (hm.own.lt gg rfl).2
  have hnotin : c.tag ∉ tagsOf its := fun hmem => by
    unfold tagsOf at hmem
    rw [List.mem_map] at hmem
    obtain ⟨y, hy, e⟩ := hmem
    have : hasTag its c.tag = true := List.any_eq_true.2 ⟨y, hy, by simp [e]⟩
    rw [ht] at this; cases this
  have htags : tagsOf (its ++ [(c.re da dc, false)]) = tagsOf its ++ [c.tag] := by simp [tagsOf, Cmd.re]
  refine ⟨h.next t7 ?_ ?_ ?_ ?_ ?_ ?_ ?_ ?_, t7, ?_⟩
  · exact (hb7 q hq5 p1).trans hm.box
  · rw [htags, List.map_append, List.length_append]
    exact ownsRow_block hm.own (fun k hk => by injection hk with hk; subst hk; exact hb7 _ hg5 hm.g1)
  · exact hmap.congr (fun j => cmdMap_push (c := c.re da dc) (b := false) ht j)
  · exact ((hm.st.block (hb7 m2 hm.st.lt (Ne.symm h.ne))).raise (Nat.le_succ n)).congr (fun j => stMap_push j)
  · exact fun e => hm.gq (by injection e)
  · intro x hx
    rcases List.mem_append.1 hx with hx | hx
    · exact Or.inl ⟨x, hx, rfl⟩
    · rw [List.mem_singleton] at hx
      subst hx
      refine Or.inr ⟨hok.turn h67 (fun b o hl e hbm => ?_), hwf, fun b o hl e hq => ?_⟩
      · have h1 := hfr b o e
        have h2 := hm.cm.lt
        omega
      · have h1 := hfr b o e
        have h2 := hm.cm.lt
        have h3 := hm.st.lt
        rcases hq with e1 | e1 | e1 | e1
        · omega
        · omega
        · omega
        · injection e1 with e1
          have e2 : gg = b := e1
          omega
  · intro k hk hq
    rcases hq with e1 | e1 | e1 | e1
    · exact Or.inl e1
    · exact Or.inr (Or.inl e1)
    · exact Or.inr (Or.inr (Or.inl e1))
    · injection e1 with e1
      subst e1
      exact Or.inr (Or.inr (Or.inr (hm.gold hk)))
  · rw [htags, List.nodup_append]
    refine ⟨h.nod, by simp, fun a ha b hb => ?_⟩
    rw [List.mem_singleton] at hb
    subst hb
    exact fun e => hnotin (e ▸ ha)
  · intro k hq
    rcases Nat.lt_or_ge k w.heap.size with hk | hk
    · left
      rcases hq with e1 | e1 | e1 | e1
      · exact Or.inl e1
      · exact Or.inr (Or.inl e1)
      · exact Or.inr (Or.inr (Or.inl e1))
      · injection e1 with e1
        subst e1
        exact Or.inr (Or.inr (Or.inr (hm.gold hk)))
    · exact Or.inr hk
end Go.Proofs.YtfbafjlhdbjgoaaDoor
