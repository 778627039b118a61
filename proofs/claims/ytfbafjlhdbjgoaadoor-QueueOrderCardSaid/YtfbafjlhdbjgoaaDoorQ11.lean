/- remove: Finish and Cancel of the queue. -/
import Derived.Test.YtfbafjlhdbjgoaaDoorQ10
import Derived.StillTailTactics
namespace Go.Proofs.YtfbafjlhdbjgoaaDoor
set_option linter.unusedVariables false
set_option linter.unusedSimpArgs false
open Go.RowKit Go.Sort
set_option maxRecDepth 100000

set_option maxHeartbeats 2000000 in
theorem filter85o (g : Addr) (p : Nat → Int → Bool) (q : Nat) (a : Option Addr) (c : Nat) (xs : List Int) (w : World) (hq : w.cell? ⟨q, 0, none⟩ = some (.slice a xs.length c)) (hx : Ints w a xs) (hm : (xs.length : Int) ≤ 1000000)
    (hcall : ∀ (W : World) (i : Nat) (x : Int), RowKit.Below w.heap.size w W → xs[i]? = some x → Calls Tryd.prog 85 #[.int .i64 (i : Nat), .int .i64 x, .pointer (some g)] W fun e w' => e = .returned (.bool (p i x)) ∧ RowKit.Below W.heap.size W w') :
    Calls Tryd.prog 58 #[.pointer (some ⟨q, 0, none⟩), .func (.func 85) #[] #[.pointer (some g)]] w fun e w' => ∃ v, e = .returned v ∧ w'.ownsRow w.heap.size 3 1 v (filtTo p xs xs.length).length ((filtTo p xs xs.length).map (Value.int .i64)) ∧ RowKit.Below w.heap.size w w' := by
  obtain ⟨i0, hi, hz0, hz1, hz2⟩ := info_parts info3
  have HCALL := Lib.hid hcall
  clear hcall
  by_cases hp : 0 < xs.length
  · obtain ⟨b, o, rfl, hcs⟩ := hx hp
    clear hx
    go_enter Tryd.func58, Tryd.ntmps58
    go_wp2
    go_loopg [5, 6, 7, 15] (xs.length) (fun g out _ _ i wr => ∃ k, k ≤ xs.length ∧ g = xs.length - k ∧ i = .int .i64 (k : Nat) ∧ OwnI w.heap.size w out (filtTo p xs k) wr)
    case atStart => exact ⟨0, Nat.zero_le _, by simp, rfl, OwnI.start w⟩
    case round =>
      obtain ⟨k, hk, rfl, rfl, hown⟩ := hrel
      obtain ⟨wo, hwo⟩ : ∃ wo, wo = wr := ⟨_, rfl⟩
      subst hwo
      by_cases hkl : k < xs.length
      · obtain ⟨x, hx⟩ : ∃ x, xs[k]? = some x := ⟨_, List.getElem?_eq_getElem hkl⟩
        have gx := cell_keep hown.bel (hcs k x hx)
        have HX := Lib.hid hx
        have hlen := filtTo_len p xs k
        clear hcs hx
        go_wp2_with fail
        refine (HCALL.out _ k x hown.bel HX.out).mono ?_
        rintro e w1 ⟨rfl, hB1⟩
        have hown1 : OwnI w.heap.size w u5 (filtTo p xs k) w1 := ⟨own_below hown.own hB1, hown.bel.trans (hB1.mono hown.bel.size), hown.size⟩
        cases hpx : p k x with
        | true =>
          have HN := Lib.hid (filtTo_yes HX.out hpx)
          clear hpx hown
          go_wp2_with (at_builtin; refine wpList_append_own _ rfl _ _ 31 rfl w.heap.size 3 i0 (.int .i64 0) 1 8 Tryd.underlying31 hi hz0 hz1 hz2 rfl (by decide) _ _ _ rfl (hown1.own.alloc _) ⟨w1.heap.size, 0, none⟩ 1 1 [.int .i64 x] rfl rfl ?c1 ?c2 ?c3 ?c4 ?c5 ?_)
          case c1 => exact cell_new_one _ _ _
          case c2 => intro u hu; simp at hu; subst hu; rfl
          case c3 => unfold maxLen; omega
          case c4 => omega
          case c5 => have := hown1.bel.size; simp; omega
          intro v' w4 hown' hgrow' _
          have hR := hown1.add hown' hgrow'
          clear hown' hgrow'
          go_wp2
          go_roundg (xs.length - (k + 1))
          case measure => omega
          case rel => exact ⟨k + 1, by omega, rfl, by go_num, by rw [HN.out]; exact hR⟩
        | false =>
          have HN := Lib.hid (filtTo_no HX.out hpx)
          clear hpx hown
          go_wp2
          go_roundg (xs.length - (k + 1))
          case measure => omega
          case rel => exact ⟨k + 1, by omega, rfl, by go_num, by rw [HN.out]; exact hown1⟩
      · obtain rfl : k = xs.length := by omega
        have hb := hown.bel
        have HO := Lib.hid hown.own
        clear hcs hown
        go_wp2
        go_ret
        exact ⟨_, rfl, HO.out, hb⟩
  · obtain rfl : xs = [] := List.eq_nil_of_length_eq_zero (by omega)
    clear hx hm hp
    go_enter Tryd.func58, Tryd.ntmps58
    go_wp2
    refine wp_loop_rounds 1 ?_
    rw [rounds_succ]
    go_wp2
    go_ret
    exact ⟨_, rfl, World.ownsRow_nil _ _ _ _, RowKit.Below.refl _ _⟩

def removed (its : List QItem) (tag : Int) : List QItem := its.filter fun x => x.1.tag != tag
def removeE (its : List QItem) (tag : Int) (b : Bool) : Int := if hasTag its tag = false then 9 else if stB its tag = b then 0 else 8
theorem filtTo_removed (its : List QItem) (tag : Int) : ∀ k, k ≤ its.length → filtTo (fun _ x => x != tag) (tagsOf its) k = tagsOf (removed (its.take k) tag)
  | 0, _ => by simp [filtTo, removed, tagsOf]
  | k + 1, hk => by
    obtain ⟨y, hy⟩ : ∃ y, its[k]? = some y := ⟨_, List.getElem?_eq_getElem (by omega)⟩
    have hx : (tagsOf its)[k]? = some y.1.tag := by unfold tagsOf; rw [List.getElem?_map, hy]; rfl
    have ih := filtTo_removed its tag k (by omega)
    have e : tagsOf (removed (its.take (k + 1)) tag) = tagsOf (removed (its.take k) tag) ++ tagsOf (removed [y] tag) := by
      rw [List.take_add_one, hy]
      simp [removed, tagsOf]
    rw [e, ← ih]
    cases hr : (y.1.tag != tag) with
    | true => rw [filtTo_yes hx hr]; simp [removed, tagsOf, hr]
    | false => rw [filtTo_no hx hr]; simp [removed, tagsOf, hr]
theorem removed_cmd (its : List QItem) (tag k : Int) : (if k = tag then none else cmdMap its k) = cmdMap (removed its tag) k := by
  unfold cmdMap removed
  rw [List.find?_filter]
  by_cases hk : k = tag
  · subst hk
    rw [if_pos rfl]
    have : its.find? (fun x => decide ((x.1.tag != k) = true ∧ (x.1.tag == k) = true)) = none := List.find?_eq_none.2 (fun x _ => by by_cases h : x.1.tag = k <;> simp [h])
    rw [this]; rfl
  · rw [if_neg hk]
    congr 2
    funext x
    by_cases h : x.1.tag = k
    · simp [h, hk]
    · simp [h]
theorem removed_st (its : List QItem) (tag k : Int) : (if k = tag then none else stMap its k) = stMap (removed its tag) k := by
  unfold stMap removed
  rw [List.find?_filter]
  by_cases hk : k = tag
  · subst hk
    rw [if_pos rfl]
    have : its.find? (fun x => decide ((x.1.tag != k) = true ∧ (x.1.tag == k && x.2) = true)) = none := List.find?_eq_none.2 (fun x _ => by by_cases h : x.1.tag = k <;> simp [h])
    rw [this]; rfl
  · rw [if_neg hk]
    congr 2
    funext x
    by_cases h : x.1.tag = k
    · simp [h, hk]
    · simp [h]
theorem removed_nod {its : List QItem} {tag : Int} (h : (tagsOf its).Nodup) : (tagsOf (removed its tag)).Nodup := by
  unfold tagsOf removed at *
  exact h.sublist ((List.filter_sublist).map _)

theorem Turn.undrew {F : Nat → Prop} {w w' : World} (h : Turn F w.drew w') : Turn F w w' := ⟨h.os, h.tape, h.output, h.size, h.block⟩
theorem removed_done {w w3 w5 w6 : World} {q m1 m2 n B : Nat} {tv v : Value} {its : List QItem} {tag : Int} (h : QAt w q m1 m2 n tv its) (hB : RowKit.Below w.heap.size w w3) (hBB : w.heap.size ≤ B)
    (hown : w3.ownsRow B 3 1 v (tagsOf (removed its tag)).length ((tagsOf (removed its tag)).map (Value.int .i64)))
    (h5 : MapIs w5 cmdz.val m1 n (fun j => if j = tag then none else cmdMap its j)) (t5 : Turn (fun k => k = m1) (w3.setCell ⟨q, 0, none⟩ v) w5)
    (h6 : MapIs w6 (.bool false) m2 n (fun j => if j = tag then none else stMap its j)) (t6 : Turn (fun k => k = m2) w5 w6) :
    QAt w6 q m1 m2 n v (removed its tag) ∧ Turn (QF q m1 m2 tv) w w6 ∧ ∀ k, QF q m1 m2 v k → QF q m1 m2 tv k ∨ w.heap.size ≤ k := by
  obtain ⟨p1, p2, p3, p4, p5⟩ := h.parts
  have hlt := hown.lt
  have h3 := h.grow hB
  have hq := h.qlt
  have hm1 := h.cm.lt
  have hm2 := h.st.lt
  have hs := hB.size
  have hsz : (w3.setCell ⟨q, 0, none⟩ v).heap.size = w3.heap.size := by simp [World.setCell]
  have tc : Turn (fun k => k = q) w3 (w3.setCell ⟨q, 0, none⟩ v) := Turn.of_cell w3 ⟨q, 0, none⟩ v
  have T : Turn (QF q m1 m2 tv) w w6 := (((Turn.of_below (F := QF q m1 m2 tv) hB).trans tc (fun i _ e => Or.inl e)).trans t5 (fun i _ e => Or.inr (Or.inl e))).trans t6 (fun i _ e => Or.inr (Or.inr (Or.inl e)))
  have hs5 := t5.size
  have b56 : ∀ k, k < w3.heap.size → k ≠ q → k ≠ m1 → k ≠ m2 → w6.heap[k]? = w3.heap[k]? := fun k hk e1 e2 e3 => by
    rw [t6.block k (by omega) e3, t5.block k (by omega) e2, tc.block k hk e1]
  refine ⟨h.next T ?_ ?_ ?_ ?_ ?_ (fun x hx => Or.inl ⟨x, (List.mem_filter.1 hx).1, rfl⟩) ?_ (removed_nod h.nod), T, ?_⟩
  · rw [t6.block q (by omega) p2, t5.block q (by omega) p1]
    exact set_row h3.box 0 v
  · obtain ⟨hl, hd⟩ := ownsRow_block hown (fun k hk => b56 k (hlt k hk).2 (by have := (hlt k hk).1; omega) (by have := (hlt k hk).1; omega) (by have := (hlt k hk).1; omega))
    refine ⟨hl, ?_⟩
    rcases hd with hd | ⟨g, cap, cur, e, _, r⟩
    · exact .inl hd
    · exact .inr ⟨g, cap, cur, e, Nat.zero_le _, r⟩
  · exact (h5.block (t6.block m1 h5.lt h.ne)).congr (fun k => removed_cmd its tag k)
  · exact h6.congr (fun k => removed_st its tag k)
  · exact fun e => by have := (hlt q e).1; omega
  · intro k hk hq'
    rcases hq' with e | e | e | e
    · exact Or.inl e
    · exact Or.inr (Or.inl e)
    · exact Or.inr (Or.inr (Or.inl e))
    · have := (hlt k e).1; omega
  · intro k hq'
    rcases hq' with e | e | e | e
    · exact Or.inl (Or.inl e)
    · exact Or.inl (Or.inr (Or.inl e))
    · exact Or.inl (Or.inr (Or.inr (Or.inl e)))
    · have := (hlt k e).1; exact Or.inr (by omega)

theorem closure85 {w : World} {g : Nat} {tag : Int} (hg : w.cell? ⟨g, 0, none⟩ = some (.int .i64 tag)) (i : Nat) (x : Int) :
    Calls Tryd.prog 85 #[.int .i64 (i : Nat), .int .i64 x, .pointer (some ⟨g, 0, none⟩)] w fun e w' => e = .returned (.bool (x != tag)) ∧ RowKit.Below w.heap.size w w' := by
  go_enter Tryd.func85, Tryd.ntmps85
  go_wp2
  go_ret
  exact ⟨rfl, RowKit.Below.refl _ _⟩

set_option maxHeartbeats 4000000 in
theorem remove_any {w : World} {q m1 m2 n : Nat} {tv : Value} {its : List QItem} (h : QAt w q m1 m2 n tv its) {tag : Int} (b : Bool) (hk : (Lit.int .i64 tag).wf = true) (hm : its.length ≤ 1000000) :
    Calls Tryd.prog 68 #[.pointer (some ⟨q, 0, none⟩), .int .i64 tag, .bool b] w fun e w' => e = .returned (.int .i64 (removeE its tag b)) ∧ Turn (QF q m1 m2 tv) w w' ∧ (removeE its tag b ≠ 0 → QAt w' q m1 m2 n tv its) ∧
      (removeE its tag b = 0 → ∃ tv', QAt w' q m1 m2 n tv' (removed its tag) ∧ ∀ k, QF q m1 m2 tv' k → QF q m1 m2 tv k ∨ w.heap.size ≤ k) := by
  have hmf : ∀ (fn : Fn) (first cap : Array Value) (w : World), (Instr.makeFunc fn first cap).run Tryd.prog w = .ok (.func fn first cap) w := fun _ _ _ _ => rfl
  have hb0 := below_box w #[.int .i64 tag] 3
  have hc0 : (w.alloc (.cells #[.int .i64 tag] 3)).cell? ⟨w.heap.size, 0, none⟩ = some (.int .i64 tag) := cell_new_one w _ 3 0 _ rfl
  have CK := known_any (h.grow hb0) hk
  have H := Lib.hid h
  have HB0 := Lib.hid hb0
  have HC0 := Lib.hid hc0
  clear h hb0 hc0
  go_enter Tryd.func68, Tryd.ntmps68
  go_wp2_with fail
  refine CK.mono ?_
  rintro e w1 ⟨rfl, hB1⟩
  have hc1 := cell_keep hB1 HC0.out
  have hB := HB0.out.trans (hB1.mono HB0.out.size)
  clear CK hB1
  cases ht : hasTag its tag with
  | false =>
    have HK : Hid (knownE its tag = 9) := by show knownE its tag = 9; simp [knownE, ht]
    have HE : Hid (removeE its tag b = 9) := by show removeE its tag b = 9; simp [removeE, ht]
    rw [HK.out]
    clear ht
    go_wp2
    go_ret
    exact ⟨ret_int HE.out.symm, Turn.of_below hB, fun _ => H.out.grow hB, fun h0 => by rw [HE.out] at h0; cases h0⟩
  | true =>
    have HK : Hid (knownE its tag = 0) := by show knownE its tag = 0; simp [knownE, ht]
    have HT := Lib.hid ht
    rw [HK.out]
    clear ht
    have h1 := H.out.grow hB
    have g1 := cell_regrown hc1
    have g2 := cell_regrown h1.q2
    have ls : ∀ d os, (Instr.lookup 66 (.map (some m2)) (.int .i64 tag) false).run Tryd.prog (grow (redrawn w1 d) os) = .ok (.bool (stB its tag)) (grow (redrawn w1 d) os) := fun d os => by
      have := (h1.grow (below_regrown _ d os)).st.look1 (t := 66) (e := 4) Tryd.underlying66 (zero4 _) hk
      rwa [stMap_get] at this
    clear h1
    obtain ⟨s, hs⟩ : ∃ s, stB its tag = s := ⟨_, rfl⟩
    rw [hs] at ls
    have HS := Lib.hid hs
    clear hs
    by_cases he : s = b
    · subst he
      have HE : Hid (removeE its tag s = 0) := by show removeE its tag s = 0; simp [removeE, HT.out, HS.out]
      cases s
      all_goals
        go_wp2_with fail
        refine wp_region_quiet_below (by kernel_rfl) (by kernel_rfl) ?_
        repeat (go_big_quiet_step (fail))
        refine wpQuiet_nil ?_
        intro _ hw'
        obtain ⟨⟨d, os'⟩, hw''⟩ := hw'
        subst hw''
        have hB2 := below_regrown w1 d os'
        generalize grow (redrawn w1 d) os' = w2 at hB2 ⊢
        have hc2 := cell_keep hB2 hc1
        have hBw := hB.trans (hB2.mono hB.size)
        clear g1 g2 ls hB2 hc1 hB
        have h2 := H.out.grow hBw
        obtain ⟨a, c, hte, hI⟩ := h2.ints
        have htl := tagsOf_len its
        have CF := filter85o ⟨w.heap.size, 0, none⟩ (fun _ x => x != tag) q a c (tagsOf its) w2 (by rw [h2.q0, hte]) hI (by omega) (fun W i x hW _ => closure85 (cell_keep hW hc2) i x)
        rw [htl, filtTo_removed its tag _ (Nat.le_refl _), List.take_length] at CF
        clear hte hI htl h2
        go_wp2_with fail
        refine CF.mono ?_
        rintro e w3 ⟨v, rfl, hown3, hB3⟩
        obtain ⟨a5, c5, rfl, _⟩ := ownsInts hown3
        have hBx := hBw.trans (hB3.mono hBw.size)
        have hc3 := cell_keep hB3 hc2
        have h3 := H.out.grow hBx
        have q0 := h3.q0
        have fq := h3.free 0
        have HO3 := Lib.hid hown3
        have H3 := Lib.hid h3
        clear CF hown3 h3 hB3 hc2
        go_wp2_with fail
        have hbx4 : Hid ((w3.setCell ⟨q, 0, none⟩ (.slice a5 (tagsOf (removed its tag)).length c5)).heap[q]? = some (.cells #[.slice a5 (tagsOf (removed its tag)).length c5, .map (some m1), .map (some m2)] 68 (0, 0))) := set_row H3.out.box 0 _
        have hqw : w.heap.size ≠ q := by have := H.out.qlt; omega
        have hP := Lib.hid H.out.parts
        have hc4 : Hid ((w3.setCell ⟨q, 0, none⟩ (.slice a5 (tagsOf (removed its tag)).length c5)).cell? ⟨w.heap.size, 0, none⟩ = some (.int .i64 tag)) := (World.cell?_of_block (w := w3) (RowKit.Below.heap_setCell w3 ⟨q, 0, none⟩ _ _ hqw)).trans hc3
        have hm4 : MapIs (w3.setCell ⟨q, 0, none⟩ (.slice a5 (tagsOf (removed its tag)).length c5)) cmdz.val m1 n (cmdMap its) := H3.out.cm.block (RowKit.Below.heap_setCell w3 ⟨q, 0, none⟩ _ _ (Ne.symm hP.out.1))
        have hn4 : Hid (MapIs (w3.setCell ⟨q, 0, none⟩ (.slice a5 (tagsOf (removed its tag)).length c5)) (.bool false) m2 n (stMap its)) := H3.out.st.block (RowKit.Below.heap_setCell w3 ⟨q, 0, none⟩ _ _ (Ne.symm hP.out.2.1))
        have HB3 := Lib.hid (show w.heap.size ≤ w2.heap.size from hBw.size)
        have HBX := Lib.hid hBx
        obtain ⟨W4, hW4⟩ : ∃ W4, W4 = w3.setCell ⟨q, 0, none⟩ (.slice a5 (tagsOf (removed its tag)).length c5) := ⟨_, rfl⟩
        rw [← hW4] at hbx4 hc4 hm4 hn4 ⊢
        have HW4 := Lib.hid hW4
        obtain ⟨w5, hrun5, hmap5, hturn5⟩ := MapIs.drop (w := W4.drew) (t := 65) (e := 24) hm4 Tryd.underlying65 hk 0
        have t5 : Hid (Turn (fun k => k = m1) W4 w5) := (Turn.of_map hturn5).undrew
        have HM5 := Lib.hid hmap5
        have hq4 : q < W4.heap.size := by rw [hW4]; simp [World.setCell]; exact H3.out.qlt
        have hw4 : w.heap.size < W4.heap.size := by rw [hW4]; simp [World.setCell]; have := block_lt_of_cell hc3; exact this
        have hwm1 : w.heap.size ≠ m1 := by have := H.out.cm.lt; omega
        have hwm2 : w.heap.size ≠ m2 := by have := H.out.st.lt; omega
        have gq4 : W4.cell? ⟨q, 1, none⟩ = some (.map (some m1)) := by rw [World.cell?, hbx4.out]; rfl
        have gb4 := hc4.out
        have gq5 : w5.cell? ⟨q, 2, none⟩ = some (.map (some m2)) := by rw [World.cell?_of_block (w := W4) (t5.out.block q hq4 hP.out.1), World.cell?, hbx4.out]; rfl
        have gb5 : w5.cell? ⟨w.heap.size, 0, none⟩ = some (.int .i64 tag) := (World.cell?_of_block (w := W4) (t5.out.block _ hw4 hwm1)).trans hc4.out
        have hn5 : MapIs w5 (.bool false) m2 n (stMap its) := hn4.out.block (t5.out.block m2 hn4.out.lt (Ne.symm H.out.ne))
        obtain ⟨w6, hrun6, hmap6, hturn6⟩ := MapIs.drop (w := w5.drew) (t := 66) (e := 4) hn5 Tryd.underlying66 hk 0
        have t6 : Hid (Turn (fun k => k = m2) w5 w6) := (Turn.of_map hturn6).undrew
        have hfin := Lib.hid (removed_done H.out HBX.out HB3.out HO3.out HM5.out (by rw [← HW4.out]; exact t5.out) hmap6 t6.out)
        clear hm4 q0 fq hc3 hBx hmap5 hturn5 hmap6 hturn6 hW4 hn5 hq4 hw4 hwm1 hwm2 hqw
        go_still_tail 5, (by kernel_rfl)
        change wpList _ _ _ _ _ W4.drew
        go_wp2_with fail
        go_still_tail 5, (by kernel_rfl)
        change wpList _ _ _ _ _ w5.drew
        go_wp2_with fail
        go_ret
        exact ⟨ret_int HE.out.symm, hfin.out.2.1, fun h0 => absurd HE.out h0, fun _ => ⟨_, hfin.out.1, hfin.out.2.2⟩⟩
    · have HE : Hid (removeE its tag b = 8) := by show removeE its tag b = 8; simp [removeE, HT.out, HS.out, he]
      cases s <;> cases b
      all_goals first | exact absurd rfl he | skip
      all_goals
        clear he
        go_wp2_with fail
        refine wp_region_quiet_below (by kernel_rfl) (by kernel_rfl) ?_
        repeat (go_big_quiet_step (fail))
        refine wpQuiet_nil ?_
        intro _ hw'
        obtain ⟨⟨d, os'⟩, hw''⟩ := hw'
        subst hw''
        have hB2 := below_regrown w1 d os'
        generalize grow (redrawn w1 d) os' = w2 at hB2 ⊢
        have hc2 := cell_keep hB2 hc1
        have hBw := hB.trans (hB2.mono hB.size)
        clear g1 g2 ls hB2 hc1 hB
        go_wp2
        go_ret
        exact ⟨ret_int HE.out.symm, Turn.of_below hBw, fun _ => H.out.grow hBw, fun h0 => by rw [HE.out] at h0; cases h0⟩
end Go.Proofs.YtfbafjlhdbjgoaaDoor
