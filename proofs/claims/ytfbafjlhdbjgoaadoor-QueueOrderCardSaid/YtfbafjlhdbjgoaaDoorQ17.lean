/- Same of the reference at equal contents; a queue while other blocks are written; an append of blocks. -/
import Derived.Test.YtfbafjlhdbjgoaaDoorQ14
namespace Go.Proofs.YtfbafjlhdbjgoaaDoor
set_option linter.unusedVariables false
set_option linter.unusedSimpArgs false
open Go.RowKit Go.Sort
set_option maxRecDepth 100000

@[reducible] def valAt (c : Cmd) (da : Option Addr) (dc : Nat) : Value := .agg #[.int .i64 c.tag, .int .i64 c.kind, .int .i64 c.ord, .bool c.force, .string c.vol, .string c.oth, .int .i64 c.pos, .int .i64 c.len, .slice da c.bs.length dc]
set_option maxHeartbeats 2000000 in
theorem same44_ne (c : Cmd) (da da' : Option Addr) (dc dc' : Nat) (w : World) (hpos : 0 < c.bs.length) (hd : Dat w da c.bs) (hd' : Dat w da' c.bs) (hm : (c.bs.length : Int) ≤ 17592186044416) :
    Calls Tryd.prog 44 #[valAt c da dc, valAt c da' dc'] w fun e w' => e = .returned (.bool true) ∧ RowKit.Below w.heap.size w w' := by
  obtain ⟨ab, ao, rfl, ca⟩ := hd hpos
  obtain ⟨bb, bo, rfl, cb⟩ := hd' hpos
  have hg := guard_b8
  have hneq := run_neq_b8
  clear hd hd'
  go_enter Tryd.func44, Tryd.ntmps44
  go_wp2
  go_loopw [5] (fun i wr => ∃ k : Nat, k ≤ c.bs.length ∧ i = .int .i64 k ∧ RowKit.Below (w.heap.size + 2) ((w.alloc (.cells (c.re (some ⟨ab, ao, none⟩) dc).arr 24)).alloc (.cells (c.re (some ⟨bb, bo, none⟩) dc').arr 24)) wr) (fun i _ => c.bs.length - (intOf i).toNat)
  case atStart => exact ⟨0, Nat.zero_le _, rfl, RowKit.Below.refl _ _⟩
  case round =>
    obtain ⟨k, hk, rfl, hb⟩ := hrel
    obtain ⟨hbw, hs0, hs1, hba, hbb⟩ := box2 hb
    have p8 : wr.cell? ⟨w.heap.size, 8, none⟩ = some (.slice (some ⟨ab, ao, none⟩) c.bs.length dc) := hba.2.2.2.2.2.2.2.2
    have q8 : wr.cell? ⟨w.heap.size + 1, 8, none⟩ = some (.slice (some ⟨bb, bo, none⟩) c.bs.length dc') := hbb.2.2.2.2.2.2.2.2
    clear hba hbb
    by_cases hlt : k < c.bs.length
    · obtain ⟨x, hx⟩ : ∃ x, c.bs[k]? = some x := ⟨_, List.getElem?_eq_getElem hlt⟩
      obtain ⟨a0, a1, a2, a3, a4, a5, a6, a7⟩ := (ca k x hx).mono hbw
      obtain ⟨b0, b1, b2, b3, b4, b5, b6, b7⟩ := (cb k x hx).mono hbw
      clear hx ca cb
      go_wp2
      go_quiet (fail)
      go_wp2
      go_roundw
      case rel => exact ⟨k + 1, by omega, by go_num, below_drewN hb _⟩
      case measure => simp [intOf]; omega
    · clear ca cb
      go_wp2
      go_ret
      exact ⟨rfl, hbw⟩
set_option maxHeartbeats 2000000 in
theorem same44_eq (c : Cmd) (da da' : Option Addr) (dc dc' : Nat) (w : World) (hd : Dat w da c.bs) (hd' : Dat w da' c.bs) (hm : (c.bs.length : Int) ≤ 17592186044416) :
    Calls Tryd.prog 44 #[valAt c da dc, valAt c da' dc'] w fun e w' => e = .returned (.bool true) ∧ RowKit.Below w.heap.size w w' := by
  by_cases hp : 0 < c.bs.length
  · exact same44_ne c da da' dc dc' w hp hd hd' hm
  · have hz : c.bs.length = 0 := by omega
    unfold valAt
    rw [hz]
    clear hd hd' hm hp hz
    go_enter Tryd.func44, Tryd.ntmps44
    go_wp2
    refine wp_loop_rounds 1 ?_
    rw [rounds_succ]
    go_wp2
    go_ret
    exact ⟨rfl, below_two w _ _ _ _⟩


theorem QAt.keep {F : Nat → Prop} {w w' : World} {q m1 m2 n : Nat} {tv : Value} {its : List QItem} (h : QAt w q m1 m2 n tv its) (ht : Turn F w w') (hF : ∀ k, F k → ¬ QF q m1 m2 tv k)
    (hD : ∀ x ∈ its, ∀ b o, 0 < x.1.bs.length → x.1.da = some ⟨b, o, none⟩ → ¬ F b) : QAt w' q m1 m2 n tv its := by
  obtain ⟨p1, p2, p3, p4, p5⟩ := h.parts
  exact ⟨(ht.block q h.qlt (fun hf => hF q hf (Or.inl rfl))).trans h.box, ownsRow_block h.tags (fun k hk => ht.block k (p5 k hk) (fun hf => hF k hf (Or.inr (Or.inr (Or.inr hk))))),
    h.cm.block (ht.block m1 h.cm.lt (fun hf => hF m1 hf (Or.inr (Or.inl rfl)))), h.st.block (ht.block m2 h.st.lt (fun hf => hF m2 hf (Or.inr (Or.inr (Or.inl rfl))))), h.ne, h.tq,
    fun x hx => ⟨(h.ok x hx).1.turn ht (fun b o hl e => hD x hx b o hl e), (h.ok x hx).2⟩, h.apart, h.nod⟩

/-- The blocks' first bytes, one more each, up to block k. -/
def bump (x : B8) : B8 := { x with x0 := IntKind.u8.wrap (x.x0 + 1) }
def bumpTo (bs : List B8) (k : Nat) : List B8 := (bs.take k).map bump ++ bs.drop k


theorem run_append_nil_cap {P : Program} {w : World} (base : Nat) (t ty e : TypeId) (i : TypeInfo) (size : Nat) (ht : P.underlying t = some (.slice e)) (hi : P.info? e = some i)
    (v : Value) (n : Nat) (xs : List Value) (hown : w.ownsRow base e size v n xs) (c : Nat) :
    (Builtin.append_ #[t, t] ty #[v, .slice none 0 c]).run P w = .ok v w := by
  rcases hown.2 with ⟨rfl, rfl⟩ | ⟨g, cap, cur, rfl, _, _, hnc, _⟩
  · simp [Builtin.append_, run_underlying ht, sizeOf, typeInfo, hi, Builtin.lenOf, Builtin.firstCells]
  · simp [Builtin.append_, run_underlying ht, sizeOf, typeInfo, hi, Builtin.lenOf, Builtin.firstCells, hnc, storeCells]

theorem wpList_append_blocks {ops : Array Oper} {rest : List Oper} {o : Oper} {a : Act} {Q : Exit → Act → World → Prop} {w : World} (hgd : o.guard = none) (s x : Operand)
    (ho : o.op = .call { callee := .builtin .append, args := #[s, x], argTypes := #[22, 22] })
    (base : Nat) (v : Value) (n : Nat) (xs : List Value) (hs : a.eval s = v) (hown : w.ownsRow base 60 8 v n xs)
    (da : Option Addr) (dc : Nat) (bs : List B8) (hx : a.eval x = .slice da bs.length dc) (hd : Dat w da bs) (hm : n + bs.length ≤ 17592186044416) (hbase : base ≤ w.heap.size)
    (h : ∀ v' w', w'.ownsRow base 60 8 v' (n + bs.length) (xs ++ flat8 bs) → w.grownBy w' v.ownBlock → wpList Tryd.prog ops Q rest (a.put o.dst v') w') : wpList Tryd.prog ops Q (o :: rest) a w := by
  obtain ⟨i0, z, hi, hz0, hz1, hz2, hzs⟩ := info60z
  cases da with
  | none =>
    have hb : bs = [] := by
      rcases Nat.eq_zero_or_pos bs.length with h | h
      · exact List.eq_nil_of_length_eq_zero h
      · obtain ⟨b, o, e, _⟩ := hd h
        cases e
    subst hb
    refine wpList_plain hgd fun K hK => ?_
    have hrun := run_append_nil_cap (P := Tryd.prog) (w := w) base 22 o.type 60 i0 8 Tryd.underlying22 hi v n xs hown dc
    unfold Oper.wp
    simp only [List.length_nil] at hx
    simp [execOp, ho, resolve, invoke, builtin, hs, hx, hrun, Result.andThen]
    refine hK _ _ (h v w ?_ ⟨rfl, rfl, rfl, Nat.le_refl _, fun _ _ _ => rfl⟩)
    simpa [flat8] using hown
  | some ad =>
    have hnews : ∀ j u, (flat8 bs)[j]? = some u → w.cell? (ad.add j) = some u := by
      intro j u hj
      have hp : 0 < bs.length := by
        have := (List.getElem?_eq_some_iff.1 hj).1
        rw [flat8_len] at this; omega
      obtain ⟨b, o, e, hc⟩ := hd hp
      injection e with e
      subst e
      exact dat_flat hc j u hj
    exact wpList_append_own w hgd s x 22 ho base 60 i0 z 8 8 Tryd.underlying22 hi hz0 hz1 hz2 hzs (by decide) v n xs hs hown ad bs.length dc (flat8 bs) hx (flat8_len bs) hnews (flat8_one bs) (by unfold maxLen; omega) (by omega) hbase (fun v' w' h1 h2 _ => h v' w' h1 h2)

/-- The blocks' first bytes are there. -/
def Firsts (w : World) (a : Option Addr) (n : Nat) : Prop := ∀ i, i < n → ∃ b o v, a = some ⟨b, o, none⟩ ∧ w.cell? ⟨b, o + i * 8, none⟩ = some (.int .u8 v)
theorem Firsts.of {w : World} {a : Option Addr} {bs : List B8} (h : Dat w a bs) : Firsts w a bs.length := fun i hi => by
  obtain ⟨b, o, e, hc⟩ := h (by omega)
  exact ⟨b, o, _, e, (hc i _ (List.getElem?_eq_getElem hi)).1⟩
theorem Firsts.store {w : World} {a : Option Addr} {n : Nat} (h : Firsts w a n) (p : Addr) (v : Int) : Firsts (w.setCell p (.int .u8 v)) a n := fun i hi => by
  obtain ⟨b, o, x, e, hc⟩ := h i hi
  by_cases hp : p = ⟨b, o + i * 8, none⟩
  · subst hp
    exact ⟨b, o, v, e, World.cell?_setCell_same _ _ _ hc⟩
  · exact ⟨b, o, x, e, (World.cell?_setCell_other _ _ _ _ hp).trans hc⟩
/-- The block of an address. -/
def Blk (a : Option Addr) (k : Nat) : Prop := ∃ o, a = some ⟨k, o, none⟩
theorem getOne {w : World} {q m1 m2 n : Nat} {tv : Value} {c : Cmd} {a d1 : Option Addr} {a0 e1 : Nat} (h : QAt w q m1 m2 n tv ([] ++ [((c.re a a0).re d1 e1, false)])) (hk : (Lit.int .i64 c.tag).wf = true) :
    Calls Tryd.prog 34 #[.pointer (some ⟨q, 0, none⟩), .int .i64 c.tag] w fun e w' => (∃ d2 e2, e = .returned (.tuple #[valAt c d2 e2, .bool true]) ∧ Dat w' d2 c.bs ∧ (∀ b o, d2 = some ⟨b, o, none⟩ → w.heap.size ≤ b) ∧ Thaw w' d2) ∧ RowKit.Below w.heap.size w w' := by
  refine (get_any h hk).mono ?_
  rintro e w' ⟨hp, hb⟩
  have hf : (([] ++ [((c.re a a0).re d1 e1, false)] : List QItem).find? fun x => x.1.tag == c.tag) = some ((c.re a a0).re d1 e1, false) := by simp [Cmd.re]
  unfold GetPost at hp
  rw [hf] at hp
  obtain ⟨d2, e2, h1, h2, h3, h4⟩ := hp
  exact ⟨⟨d2, e2, h1, h2.dat, h3, h4⟩, hb⟩
theorem AW.lower {w w1 wc : World} {q m1 m2 n : Nat} {tv : Value} {its : List QItem} (h : AW w1 wc q m1 m2 n tv its) (hb : RowKit.Below w.heap.size w w1) : AW w wc q m1 m2 n tv its :=
  ⟨h.qa, hb.trans (h.bel.mono hb.size), fun k hk => Nat.le_trans hb.size (h.low k hk)⟩
theorem boxCells {w : World} {g : Nat} {c : Cmd} (h : w.heap[g]? = some (.cells c.arr 24 (0, 0))) : BoxAt w g 0 c := by
  refine ⟨?_, ?_, ?_, ?_, ?_, ?_, ?_, ?_, ?_⟩
  all_goals (rw [World.cell?, h]; rfl)
theorem heap_lt {w : World} {g : Nat} {o : Obj} (h : w.heap[g]? = some o) : g < w.heap.size := by
  rcases Nat.lt_or_ge g w.heap.size with h1 | h1
  · exact h1
  · rw [Array.getElem?_eq_none h1] at h; cases h
theorem Turn.heap {F : Nat → Prop} {w w' : World} (h : Turn F w w') {g : Nat} {o : Obj} (hg : w.heap[g]? = some o) (hF : ¬ F g) : w'.heap[g]? = some o := (h.block g (heap_lt hg) hF).trans hg
theorem below_heap {w w' : World} (h : RowKit.Below w.heap.size w w') {g : Nat} {o : Obj} (hg : w.heap[g]? = some o) : w'.heap[g]? = some o := (h.block g (heap_lt hg)).trans hg

end Go.Proofs.YtfbafjlhdbjgoaaDoor
