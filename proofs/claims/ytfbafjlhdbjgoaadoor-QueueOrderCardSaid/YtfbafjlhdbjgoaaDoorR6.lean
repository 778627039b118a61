/- The reference queue: drop, Remove. -/
import Derived.Test.YtfbafjlhdbjgoaaDoorR4
namespace Go.Proofs.YtfbafjlhdbjgoaaDoor
set_option linter.unusedVariables false
set_option linter.unusedSimpArgs false
open Go.RowKit Go.Sort
set_option maxRecDepth 100000

/-- append onto a row of the call's own, at a step of a region that draws its order: nothing is asked of how many are appended. -/
theorem step_append_own {P : Program} {w : World} {ops : Array Oper} {o : Oper} {a : Act} {K : Act → World → Prop} {Q : Exit → Act → World → Prop} {E : Prop} (hgd : o.guard = none) (s x : Operand) (t : TypeId)
    (ho : o.op = .call { callee := .builtin .append, args := #[s, x], argTypes := #[t, t] })
    (base : Nat) (e : TypeId) (i : TypeInfo) (z : Value) (size bytes : Nat) (ht : P.underlying t = some (.slice e)) (hi : P.info? e = some i) (hz : i.zero = some z)
    (hsize : i.size = size) (hby : i.bytes = bytes) (hzs : z.cells.size = size) (hsz : 0 < size)
    (v : Value) (n : Nat) (xs : List Value) (hs : a.eval s = v) (hown : w.ownsRow base e size v n xs)
    (ad : Addr) (m c : Nat) (news : List Value) (hx : a.eval x = .slice (some ad) m c) (hl : news.length = m * size) (hnews : ∀ j u, news[j]? = some u → w.cell? (ad.add j) = some u) (h1 : ∀ u ∈ news, u.oneCell' = true)
    (h63 : n + m ≤ maxLen) (hbytes : (n + m) * bytes ≤ 140737488355328) (hbase : base ≤ w.heap.size)
    (h : ∀ v' w', w'.ownsRow base e size v' (n + m) (xs ++ news) → w.grownBy w' v.ownBlock → K (a.put o.dst v') w') :
    if Region.wanted o (yielded ops a.tmps) = true then Oper.wp P o a w K Q else E := by
  have hw : Region.wanted o (yielded ops a.tmps) = true := by simp [Region.wanted, hgd]
  rw [if_pos hw]
  exact wp_append_own w s x t ho base e i z size bytes ht hi hz hsize hby hzs hsz v n xs hs hown ad m c news hx hl hnews h1 h63 hbytes hbase fun v' w' h2 h3 _ => h v' w' h2 h3

theorem info77 : (Tryd.prog.info? 77).map (fun i => (i.zero.map fun z => z.cells, i.size, i.bytes)) = some (some #[.int .i64 0, .int .i64 0, .int .i64 0, .bool false, .string ⟨#[]⟩, .string ⟨#[]⟩, .int .i64 0, .int .i64 0, .slice none 0 0, .bool false], 10, 112) := by kernel_rfl
theorem info77z : ∃ i0 z, Tryd.prog.info? 77 = some i0 ∧ i0.zero = some z ∧ i0.size = 10 ∧ i0.bytes = 112 ∧ z.cells.size = 10 := by
  have h := info77
  obtain ⟨i0, hi⟩ : ∃ i0, Tryd.prog.info? 77 = some i0 := by
    cases hx : Tryd.prog.info? 77 with
    | none => rw [hx] at h; cases h
    | some i0 => exact ⟨i0, rfl⟩
  rw [hi] at h
  simp only [Option.map_some, Option.some.injEq, Prod.mk.injEq] at h
  obtain ⟨hz, hs, hb⟩ := h
  obtain ⟨z, hz0, hz1⟩ := Option.map_eq_some_iff.1 hz
  exact ⟨i0, z, hi, hz0, hs, hb, by rw [hz1]; rfl⟩
theorem itFlat_one (its : List QItem) : ∀ u ∈ itFlat its, u.oneCell' = true := by
  intro u hu
  simp only [itFlat, List.mem_flatMap] at hu
  obtain ⟨x, _, hx⟩ := hu
  simp only [itC, List.mem_cons, List.mem_nil_iff, or_false] at hx
  rcases hx with rfl | rfl | rfl | rfl | rfl | rfl | rfl | rfl | rfl | rfl <;> rfl
theorem ownsRow_empty77 (w : World) : (w.alloc (.cells #[] 77)).ownsRow w.heap.size 77 10 (.slice (some ⟨w.heap.size, 0, none⟩) 0 0) 0 [] :=
  ⟨rfl, .inr ⟨w.heap.size, 0, #[], rfl, Nat.le_refl _, heap_alloc_new w _, Nat.le_refl _, Nat.zero_le _, rfl, rfl⟩⟩

theorem RAt.turned {w w5 : World} {r : Nat} {sv v5 : Value} {its its' : List QItem} (h : RAt w r sv its) (hT : Turn (fun k => sv.ownBlock = some k) w w5) (hown : w5.ownsRow 0 77 10 v5 its'.length (itFlat its'))
    (hg : ∀ j, v5.ownBlock = some j → sv.ownBlock = some j ∨ w.heap.size ≤ j)
    (hsub : ∀ y ∈ its', (∃ x ∈ its, y.1 = x.1) ∨ (CmdOk w5 y.1 ∧ (Lit.int .i64 y.1.tag).wf = true ∧ ∀ b o, 0 < y.1.bs.length → y.1.da = some ⟨b, o, none⟩ → w.heap.size ≤ b ∧ v5.ownBlock ≠ some b)) (hnod : (tagsOf its').Nodup) :
    RAt (w5.setCell ⟨r, 0, none⟩ v5) r v5 its' ∧ Turn (RF r sv) w (w5.setCell ⟨r, 0, none⟩ v5) ∧ ∀ j, RF r v5 j → RF r sv j ∨ w.heap.size ≤ j := by
  have rlt := h.rlt
  have hbx : w5.heap[r]? = some (.cells #[sv] 42 (0, 0)) := (hT.block r rlt h.sq).trans h.box
  have h6 := Turn.of_cell w5 ⟨r, 0, none⟩ v5
  have hT6 : Turn (RF r sv) w (w5.setCell ⟨r, 0, none⟩ v5) :=
    Turn.trans (F := RF r sv) ⟨hT.os, hT.tape, hT.output, hT.size, fun k hk hF => hT.block k hk (fun e => hF (Or.inr e))⟩ h6 (fun i _ e => Or.inl e)
  have hvr : v5.ownBlock ≠ some r := fun e => by
    rcases hg r e with e1 | e1
    · exact h.sq e1
    · omega
  refine ⟨⟨?_, ownsRow_block hown (fun k hk => RowKit.Below.heap_setCell _ _ _ k (fun e => hvr (by rw [hk]; exact congrArg some e))), hvr, ?_, ?_, hnod⟩, hT6, ?_⟩
  · have := set_row hbx 0 v5
    simpa using this
  · intro y hy
    rcases hsub y hy with ⟨x, hx, e⟩ | ⟨h1, h2, h3⟩
    · rw [e]
      exact ⟨(h.ok x hx).1.turn hT6 (fun b o hl e => h.apart x hx b o hl e), (h.ok x hx).2⟩
    · exact ⟨h1.turn h6 (fun b o hl e hb => by have := (h3 b o hl e).1; have hb' : b = r := hb; omega), h2⟩
  · intro y hy b o hl e hR
    rcases hsub y hy with ⟨x, hx, e1⟩ | ⟨h1, h2, h3⟩
    · rw [e1] at hl e
      rcases hR with e2 | e2
      · exact h.apart x hx b o hl e (Or.inl e2)
      · rcases hg b e2 with e3 | e3
        · exact h.apart x hx b o hl e (Or.inr e3)
        · have := dat_lt (h.ok x hx).1.dat hl e
          omega
    · obtain ⟨h4, h5⟩ := h3 b o hl e
      rcases hR with e2 | e2
      · omega
      · exact h5 e2
  · intro j hj
    rcases hj with e | e
    · exact Or.inl (Or.inl e)
    · rcases hg j e with e1 | e1
      · exact Or.inl (Or.inr e1)
      · exact Or.inr e1
theorem ownsSlice {w : World} {b : Nat} {e : TypeId} {size n : Nat} {v : Value} {xs : List Value} (h : w.ownsRow b e size v n xs) : ∃ a m c, v = .slice a m c := by
  obtain ⟨hl, hh | ⟨g, cap, cur, e1, hg, hh⟩⟩ := h
  · exact ⟨_, _, _, hh.1⟩
  · exact ⟨_, _, _, e1⟩
theorem ownsRow_base {w : World} {b b' : Nat} {e : TypeId} {size n : Nat} {v : Value} {xs : List Value} (h : w.ownsRow b e size v n xs) (hb : b' ≤ b) : w.ownsRow b' e size v n xs := by
  obtain ⟨hl, hh | ⟨g, cap, cur, e1, hg, hh⟩⟩ := h
  · exact ⟨hl, .inl hh⟩
  · exact ⟨hl, .inr ⟨g, cap, cur, e1, Nat.le_trans hb hg, hh⟩⟩

set_option maxHeartbeats 4000000 in
theorem drop_any {w : World} {r : Nat} {sv : Value} {its : List QItem} (h : RAt w r sv its) {k : Nat} {x : QItem} (hx : its[k]? = some x) (hm : its.length ≤ 1000000) :
    Calls Tryd.prog 77 #[.pointer (some ⟨r, 0, none⟩), .int .i64 (k : Nat)] w fun e w' => e = .returned (.tuple #[]) ∧ ∃ sv', RAt w' r sv' (its.take k ++ its.drop (k + 1)) ∧ Turn (RF r sv) w w' ∧ ∀ j, RF r sv' j → RF r sv j ∨ w.heap.size ≤ j := by
  obtain ⟨i0, z, hi, hz0, hz1, hz2, hzs⟩ := info77z
  have hkl : k < its.length := (List.getElem?_eq_some_iff.1 hx).1
  have hrow := Lib.hid h.row
  have hnod := Lib.hid h.nod
  have hxx := Lib.hid hx
  obtain ⟨g, cap, cur, rfl, hb, hh, hc, hmc, ht⟩ := h.row.2.resolve_left (fun hh => by have := itFlat_len its; rw [hh.2] at this; simp at this; omega)
  have r0 := h.r0
  have rlt := h.rlt
  have hrg : r ≠ g := fun e => h.sq (by rw [e]; rfl)
  have hglt : g < w.heap.size := h.rows rfl
  have fr : w.frozen? ⟨r, 0, none⟩ = false := by simp [World.frozen?, h.box]
  have hcap : its.length ≤ cap := hc
  have H := Lib.hid h
  have HBX := Lib.hid h.box
  clear h hh ht hb hmc hc hx
  have hk1 : k ≤ cap := by omega
  have hk2 : k + 1 ≤ its.length := by omega
  have hk3 : k + 1 ≤ cap := by omega
  have hi0 : (0 : Int) ≤ (k : Int) + 1 := by omega
  have hi1 : (k : Int) + 1 ≤ (its.length : Int) := by omega
  have hwr : IntKind.i64.wrap ((k : Int) + 1) = ((k + 1 : Nat) : Int) := by
    rw [show ((k : Int) + 1) = ((k + 1 : Nat) : Int) by omega]
    exact IntWalk.i64_in _ (by omega)
  have hl1 : Hid ((itFlat (its.take k)).length = k * 10) := by show _ = _; rw [itFlat_len, List.length_take, Nat.min_eq_left (by omega)]
  have hl2 : Hid ((itFlat (its.drop (k + 1))).length = (its.length - (k + 1)) * 10) := by show _ = _; rw [itFlat_len, List.length_drop]
  have hn1 : Hid (∀ (j : Nat) (u : Value), (itFlat (its.take k))[j]? = some u → (w.alloc (.cells #[] 77)).drew.cell? ((⟨g, 0, none⟩ : Addr).add j) = some u) := fun j u hj => by
    rw [Go.WideShapes.add_plain]
    have hlt : j < k * 10 := by have := (List.getElem?_eq_some_iff.1 hj).1; rwa [hl1.out] at this
    have h1 : (w.alloc (.cells #[] 77)).drew.cell? ⟨g, 0 + j, none⟩ = w.cell? ⟨g, 0 + j, none⟩ := World.cell?_of_block (w := w) (RowKit.Below.heap_alloc w _ g hglt)
    rw [h1, Nat.zero_add]
    have := World.ownsRow.cellAt (w := w) (base := 0) (e := 77) (size := 10) (g := g) (n := its.length) (cap := cap) (xs := itFlat its) hrow.out j (by omega)
    rw [this, ← hj]
    conv => lhs; rw [← List.take_append_drop k its, itFlat_app]
    rw [List.getElem?_append_left (by rw [hl1.out]; exact hlt)]
  have hh4 : ∀ w4 : World, (w.alloc (.cells #[] 77)).drew.grownBy w4 (some w.heap.size) → w4.heap[r]? = w.heap[r]? := fun w4 hg =>
    (hg.block r (by show r < (w.alloc _).heap.size; simp; omega) (fun e => by injection e with e; omega)).trans (RowKit.Below.heap_alloc w _ r rlt)
  have HR4 : Hid (∀ w4 : World, (w.alloc (.cells #[] 77)).drew.grownBy w4 (some w.heap.size) → w4.cell? ⟨r, 0, none⟩ = some (.slice (some ⟨g, 0, none⟩) its.length cap) ∧ w4.frozen? ⟨r, 0, none⟩ = false) := fun w4 hg =>
    ⟨by rw [World.cell?_of_block (w := w) (hh4 w4 hg)]; exact r0, by rw [World.frozen?_of_block (w := w) (hh4 w4 hg)]; exact fr⟩
  have hh5 : ∀ (w4 w5 : World) (v4 : Value), (w.alloc (.cells #[] 77)).drew.grownBy w4 (some w.heap.size) → w4.ownsRow w.heap.size 77 10 v4 (0 + k) ([] ++ itFlat (its.take k)) → w4.grownBy w5 v4.ownBlock → ∀ j, j < w.heap.size → w5.heap[j]? = w.heap[j]? := fun w4 w5 v4 hg ho hg5 j hj => by
    have h1 := hg.size
    have h2 : (w.alloc (.cells #[] 77)).drew.heap.size = w.heap.size + 1 := by show (w.alloc _).heap.size = _; simp
    have h3 : w4.heap[j]? = w.heap[j]? := (hg.block j (by omega) (fun e => by injection e with e; omega)).trans (RowKit.Below.heap_alloc w _ j hj)
    exact (hg5.block j (by omega) (fun e => by have := (ho.lt j e.symm).1; omega)).trans h3
  have HR5 : Hid (∀ (w4 w5 : World) (v4 : Value), (w.alloc (.cells #[] 77)).drew.grownBy w4 (some w.heap.size) → w4.ownsRow w.heap.size 77 10 v4 (0 + k) ([] ++ itFlat (its.take k)) → w4.grownBy w5 v4.ownBlock → w5.cell? ⟨r, 0, none⟩ = some (.slice (some ⟨g, 0, none⟩) its.length cap) ∧ w5.frozen? ⟨r, 0, none⟩ = false) := fun w4 w5 v4 hg ho hg5 =>
    ⟨by rw [World.cell?_of_block (w := w) (hh5 w4 w5 v4 hg ho hg5 r rlt)]; exact r0, by rw [World.frozen?_of_block (w := w) (hh5 w4 w5 v4 hg ho hg5 r rlt)]; exact fr⟩
  have FIN : Hid (∀ (m : Nat) (w4 w5 : World) (v4 v5 : Value), m = its.length - (k + 1) → (w.alloc (.cells #[] 77)).drew.grownBy w4 (some w.heap.size) → w4.ownsRow w.heap.size 77 10 v4 (0 + k) ([] ++ itFlat (its.take k)) → w4.grownBy w5 v4.ownBlock →
      w5.ownsRow w.heap.size 77 10 v5 (0 + k + m) ([] ++ itFlat (its.take k) ++ itFlat (its.drop (k + 1))) →
      RAt (w5.setCell ⟨r, 0, none⟩ v5) r v5 (its.take k ++ its.drop (k + 1)) ∧ Turn (RF r (.slice (some ⟨g, 0, none⟩) its.length cap)) w (w5.setCell ⟨r, 0, none⟩ v5) ∧ ∀ j, RF r v5 j → RF r (.slice (some ⟨g, 0, none⟩) its.length cap) j ∨ w.heap.size ≤ j) := fun m w4 w5 v4 v5 hm5 hg ho hg5 ho5 => by
    subst hm5
    have h1 := hg.size
    have h2 : (w.alloc (.cells #[] 77)).drew.heap.size = w.heap.size + 1 := by show (w.alloc _).heap.size = _; simp
    have h3 := hg5.size
    refine H.out.turned ⟨hg5.os.trans hg.os, hg5.tape.trans hg.tape, hg5.output.trans hg.output, by omega, fun j hj _ => hh5 w4 w5 v4 hg ho hg5 j hj⟩ ?_ (fun j hj => Or.inr (ho5.lt j hj).1) (fun y hy => Or.inl ⟨y, ?_, rfl⟩) ?_
    · have e1 : (its.take k ++ its.drop (k + 1)).length = 0 + k + (its.length - (k + 1)) := by rw [List.length_append, List.length_take, List.length_drop]; omega
      rw [e1, itFlat_app]
      exact ownsRow_base ho5 (Nat.zero_le _)
    · rw [List.mem_append] at hy
      rcases hy with hy | hy
      · exact List.mem_of_mem_take hy
      · exact List.mem_of_mem_drop hy
    · obtain ⟨hA, hB⟩ := split_tag hnod.out hxx.out
      have e := removed_split (x := x) hA hB
      rw [← split_at hxx.out] at e
      rw [← e]
      exact removed_nod hnod.out
  by_cases hck : cap = k + 1
  · have hlk : its.length - (k + 1) = 0 := by omega
    have hl20 : Hid ((itFlat (its.drop (k + 1))).length = 0 * 10) := by show _ = _; rw [hl2.out, hlk]
    have HLK := Lib.hid hlk
    subst hck
    have hk1' : (k : Int) ≤ (k : Int) + 1 := by omega
    have hn2 : Hid (∀ (w4 : World), (w.alloc (.cells #[] 77)).drew.grownBy w4 (some w.heap.size) → ∀ (j : Nat) (u : Value), (itFlat (its.drop (k + 1)))[j]? = some u → w4.cell? ((⟨g, 0, none⟩ : Addr).add j) = some u) := fun w4 hg j u hj => by
      rw [Go.WideShapes.add_plain]
      have hlt : j < (its.drop (k + 1)).length * 10 := by have := (List.getElem?_eq_some_iff.1 hj).1; rwa [itFlat_len] at this
      rw [List.length_drop] at hlt
      omega
    go_enter Tryd.func77, Tryd.ntmps77
    go_wp2_with fail
    go_region_law (first
      | (refine step_append_own rfl (.tmp 5) (.tmp 11) 40 rfl w.heap.size 77 i0 z 10 112 Tryd.underlying40 hi hz0 hz1 hz2 hzs (by decide) (.slice (some ⟨w.heap.size, 0, none⟩) 0 0) 0 [] rfl (ownsRow_empty77 w).drew ⟨g, 0, none⟩ k _ (itFlat (its.take k)) rfl hl1.out hn1.out (itFlat_one _) (by unfold maxLen; omega) (by omega) (by simp) ?_; intro v4 w4 hown4 hgrow4; have gr4 := HR4.out w4 hgrow4; obtain ⟨gr4, gf4⟩ := gr4)
      | (refine step_append_own rfl (.tmp 12) (.tmp 19) 40 rfl w.heap.size 77 i0 z 10 112 Tryd.underlying40 hi hz0 hz1 hz2 hzs (by decide) v4 (0 + k) ([] ++ itFlat (its.take k)) rfl hown4 (⟨g, 0, none⟩ : Addr) 0 _ (itFlat (its.drop (k + 1))) rfl hl20.out (hn2.out w4 hgrow4) (itFlat_one _) (by unfold maxLen; omega) (by omega) (Nat.le_trans (by simp) hgrow4.size) ?_; intro v5 w5 hown5 hgrow5; have gr5 := HR5.out w4 w5 v4 hgrow4 hown4 hgrow5; obtain ⟨gr5, gf5⟩ := gr5; obtain ⟨a5, n5, c5, rfl⟩ := ownsSlice hown5))
    all_goals
      have hfin := Lib.hid (FIN.out _ w4 w5 v4 _ HLK.out.symm hgrow4 hown4 hgrow5 hown5)
      clear hown4 hgrow4 hown5 hgrow5 gr4 gf4 gr5 gf5
      go_wp2
      exact bodyPost_end (v := .tuple #[]) (results_none Tryd.results77 _ _ _) rfl ⟨rfl, _, hfin.out⟩
  · have hn2 : Hid (∀ (w4 : World), (w.alloc (.cells #[] 77)).drew.grownBy w4 (some w.heap.size) → ∀ (j : Nat) (u : Value), (itFlat (its.drop (k + 1)))[j]? = some u → w4.cell? ((⟨g, (k + 1) * 10, none⟩ : Addr).add j) = some u) := fun w4 hg j u hj => by
      rw [Go.WideShapes.add_plain]
      have hlt : j < (its.drop (k + 1)).length * 10 := by have := (List.getElem?_eq_some_iff.1 hj).1; rwa [itFlat_len] at this
      rw [List.length_drop] at hlt
      have h1 : w4.cell? ⟨g, (k + 1) * 10 + j, none⟩ = w.cell? ⟨g, (k + 1) * 10 + j, none⟩ := World.cell?_of_block (w := w) ((hg.block g (by show g < (w.alloc _).heap.size; simp; omega) (fun e => by injection e with e; omega)).trans (RowKit.Below.heap_alloc w _ g hglt))
      rw [h1]
      have := World.ownsRow.cellAt (w := w) (base := 0) (e := 77) (size := 10) (g := g) (n := its.length) (cap := cap) (xs := itFlat its) hrow.out ((k + 1) * 10 + j) (by omega)
      rw [this, ← hj]
      conv => lhs; rw [← List.take_append_drop (k + 1) its, itFlat_app]
      rw [List.getElem?_append_right (by rw [itFlat_len, List.length_take]; omega), itFlat_len, List.length_take, Nat.min_eq_left hk2]
      congr 1
      omega
    go_enter Tryd.func77, Tryd.ntmps77
    go_wp2_with fail
    go_region_law (first
      | (refine step_append_own rfl (.tmp 5) (.tmp 11) 40 rfl w.heap.size 77 i0 z 10 112 Tryd.underlying40 hi hz0 hz1 hz2 hzs (by decide) (.slice (some ⟨w.heap.size, 0, none⟩) 0 0) 0 [] rfl (ownsRow_empty77 w).drew ⟨g, 0, none⟩ k _ (itFlat (its.take k)) rfl hl1.out hn1.out (itFlat_one _) (by unfold maxLen; omega) (by omega) (by simp) ?_; intro v4 w4 hown4 hgrow4; have gr4 := HR4.out w4 hgrow4; obtain ⟨gr4, gf4⟩ := gr4)
      | (refine step_append_own rfl (.tmp 12) (.tmp 19) 40 rfl w.heap.size 77 i0 z 10 112 Tryd.underlying40 hi hz0 hz1 hz2 hzs (by decide) v4 (0 + k) ([] ++ itFlat (its.take k)) rfl hown4 (⟨g, (k + 1) * 10, none⟩ : Addr) (its.length - (k + 1)) _ (itFlat (its.drop (k + 1))) rfl hl2.out (hn2.out w4 hgrow4) (itFlat_one _) (by unfold maxLen; omega) (by omega) (Nat.le_trans (by simp) hgrow4.size) ?_; intro v5 w5 hown5 hgrow5; have gr5 := HR5.out w4 w5 v4 hgrow4 hown4 hgrow5; obtain ⟨gr5, gf5⟩ := gr5; obtain ⟨a5, n5, c5, rfl⟩ := ownsSlice hown5))
    all_goals
      have hfin := Lib.hid (FIN.out _ w4 w5 v4 _ rfl hgrow4 hown4 hgrow5 hown5)
      clear hown4 hgrow4 hown5 hgrow5 gr4 gf4 gr5 gf5
      go_wp2
      exact bodyPost_end (v := .tuple #[]) (results_none Tryd.results77 _ _ _) rfl ⟨rfl, _, hfin.out⟩
end Go.Proofs.YtfbafjlhdbjgoaaDoor
