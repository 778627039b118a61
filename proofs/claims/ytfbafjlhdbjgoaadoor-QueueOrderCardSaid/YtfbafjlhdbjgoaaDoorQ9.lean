/- Submit of the queue. -/
import Derived.Test.YtfbafjlhdbjgoaaDoorQ8
import Derived.Test.YtfbafjlhdbjgoaaDoorA8
import Derived.Deep.RegionLaw
import Derived.Maps.AppendAt
namespace Go.Proofs.YtfbafjlhdbjgoaaDoor
set_option linter.unusedVariables false
set_option linter.unusedSimpArgs false
open Go.RowKit Go.Sort
set_option maxRecDepth 100000

def submitE (its : List QItem) (c : Cmd) : Int := if validB c = false then 1 else if hasTag its c.tag = true then 10 else if 64 ≤ its.length then 7 else 0
theorem valid_wf {c : Cmd} (h : validB c = true) : (Lit.int .i64 c.tag).wf = true := by
  simp [validB, headB] at h
  obtain ⟨⟨⟨h1, h2⟩, _⟩, _⟩ := h
  exact WalkArith.wf_i64 (by omega)
theorem tagsOf_len (its : List QItem) : (tagsOf its).length = its.length := by simp [tagsOf]

/-- How a Submit ends. -/
def SubmitPost (w : World) (q m1 m2 n : Nat) (tv : Value) (its : List QItem) (c : Cmd) (e : Ending) (w' : World) : Prop :=
  e = .returned (.int .i64 (submitE its c)) ∧ Turn (QF q m1 m2 tv) w w' ∧ (submitE its c ≠ 0 → QAt w' q m1 m2 n tv its) ∧
  (submitE its c = 0 → ∃ da dc tv', QAt w' q m1 m2 (n + 1) tv' (its ++ [(c.re da dc, false)]) ∧ (∀ k, QF q m1 m2 tv' k → QF q m1 m2 tv k ∨ w.heap.size ≤ k) ∧ ∀ b o, da = some ⟨b, o, none⟩ → w.heap.size ≤ b)
theorem SubmitPost.err {w w' : World} {q m1 m2 n : Nat} {tv : Value} {its : List QItem} {c : Cmd} {r : Int} (h : QAt w q m1 m2 n tv its) (hb : RowKit.Below w.heap.size w w') (hr : submitE its c = r) (h0 : r ≠ 0) : SubmitPost w q m1 m2 n tv its c (.returned (.int .i64 r)) w' :=
  ⟨by rw [hr], Turn.of_below hb, fun _ => h.grow hb, fun h1 => absurd (hr ▸ h1) h0⟩

set_option maxHeartbeats 4000000 in
theorem submit_any {w : World} {q m1 m2 n : Nat} {tv : Value} {its : List QItem} (h : QAt w q m1 m2 n tv its) (c : Cmd) (hc : CmdOk w c) (hcap : ∀ b o, 0 < c.bs.length → c.da = some ⟨b, o, none⟩ → ¬ QF q m1 m2 tv b) (hn : n < 1000000) (hm : its.length ≤ 1000000) :
    Calls Tryd.prog 35 #[.pointer (some ⟨q, 0, none⟩), c.val] w fun e w' => SubmitPost w q m1 m2 n tv its c e w' := by
  obtain ⟨i0, hi, hz0, hz1, hz2⟩ := info_parts info3
  have hb1 := below_box w c.arr 24
  have hbox : (w.alloc (.cells c.arr 24)).heap[w.heap.size]? = some (.cells c.arr 24 (0, 0)) := heap_alloc_new w _
  have CV := valid_any c _ (hc.mono hb1)
  have H := Lib.hid h
  have HC := Lib.hid hc
  have HCAP := Lib.hid hcap
  have HB1 := Lib.hid hb1
  have HBX := Lib.hid hbox
  clear h hc hb1 hbox hcap
  go_enter Tryd.func35, Tryd.ntmps35
  go_wp2_with fail
  refine CV.mono ?_
  rintro e w2 ⟨rfl, hB2⟩
  clear CV
  have hB := HB1.out.trans (hB2.mono HB1.out.size)
  have hbx2 : Hid (w2.heap[w.heap.size]? = some (.cells c.arr 24 (0, 0))) := (hB2.block w.heap.size (by simp)).trans HBX.out
  clear hB2
  cases hv : validB c with
  | false =>
    have HE : Hid (submitE its c = 1) := by show submitE its c = 1; simp [submitE, hv]
    clear hv
    go_wp2
    go_ret
    exact SubmitPost.err H.out hB HE.out (by decide)
  | true =>
    have HV := Lib.hid hv
    have hwf := valid_wf hv
    clear hv
    have h2 := H.out.grow hB
    have q1 := h2.q1
    have b0 : w2.cell? ⟨w.heap.size, 0, none⟩ = some (.int .i64 c.tag) := by rw [World.cell?, hbx2.out]; rfl
    have hs2 : w.heap.size < w2.heap.size := by
      rcases Nat.lt_or_ge w.heap.size w2.heap.size with h | h
      · exact h
      · have := hbx2.out; rw [Array.getElem?_eq_none h] at this; cases this
    have HL : ∀ W, RowKit.Below w2.heap.size w2 W → (Instr.lookup 65 (.map (some m1)) (.int .i64 c.tag) true).run Tryd.prog W = .ok (.tuple #[(cmdMap its c.tag).getD cmdz.val, .bool (cmdMap its c.tag).isSome]) W := fun W hW => (h2.grow hW).cm.look2 (t := 65) (e := 24) Tryd.underlying65 (zero24 W) hwf
    have hh := find_hasTag its c.tag
    have hfound : (cmdMap its c.tag).isSome = hasTag its c.tag := by rw [← hh]; unfold cmdMap; cases its.find? (fun x => x.1.tag == c.tag) <;> rfl
    obtain ⟨V, hV, hVv⟩ : ∃ V : Cmd, (cmdMap its c.tag).getD cmdz.val = V.val ∧ True := by
      unfold cmdMap
      cases its.find? (fun x => x.1.tag == c.tag) with
      | none => exact ⟨cmdz, rfl, trivial⟩
      | some x => exact ⟨x.1, rfl, trivial⟩
    rw [hV, hfound] at HL
    have SK : Hid (∀ W, RowKit.Below w2.heap.size w2 W → (RowKit.Below w2.heap.size w2 W ∧ W.cell? ⟨q, 1, none⟩ = some (.map (some m1)) ∧ W.cell? ⟨w.heap.size, 0, none⟩ = some (.int .i64 c.tag) ∧ (Instr.lookup 65 (.map (some m1)) (.int .i64 c.tag) true).run Tryd.prog W = .ok (.tuple #[V.val, .bool (hasTag its c.tag)]) W)) := fun W hW => ⟨hW, cell_keep hW q1, cell_keep hW b0, HL W hW⟩
    have H2 := Lib.hid h2
    have hdw : RowKit.Below w2.heap.size w2 w2.drew := (RowKit.Below.refl _ _).drew
    clear HL hh hfound hV hVv h2 q1 b0
    go_wp2_with fail
    go_region_held3 (fun W => RowKit.Below w2.heap.size w2 W ∧ W.cell? ⟨q, 1, none⟩ = some (.map (some m1)) ∧ W.cell? ⟨w.heap.size, 0, none⟩ = some (.int .i64 c.tag) ∧ (Instr.lookup 65 (.map (some m1)) (.int .i64 c.tag) true).run Tryd.prog W = .ok (.tuple #[V.val, .bool (hasTag its c.tag)]) W)
      ((refine SK.out _ ?_; first | exact ((RowKit.Below.refl _ _).alloc (Nat.le_refl _) _).drew | exact RowKit.Below.alloc (And.left (by assumption)) (RowKit.Below.size (And.left (by assumption))) _ | exact hdw | exact RowKit.Below.refl _ _)) (fail)
    all_goals
      have hb3 : RowKit.Below w2.heap.size w2 (w2.alloc (.cells V.arr 24)).drew := ((RowKit.Below.refl _ _).alloc (Nat.le_refl _) _).drew
      have hB3 := hB.trans (hb3.mono hB.size)
      have hbx3 : Hid ((w2.alloc (.cells V.arr 24)).drew.heap[w.heap.size]? = some (.cells c.arr 24 (0, 0))) := (hb3.block w.heap.size hs2).trans hbx2.out
      have hs3 : w.heap.size < (w2.alloc (.cells V.arr 24)).drew.heap.size := Nat.lt_of_lt_of_le hs2 hb3.size
      clear SK hdw hbx2 H2 hs2 hb3
      generalize (w2.alloc (.cells V.arr 24)).drew = w3 at hB3 hbx3 hs3 ⊢
      cases ht : hasTag its c.tag with
      | true =>
        have HE : Hid (submitE its c = 10) := by show submitE its c = 10; simp [submitE, HV.out, ht]
        clear ht hbx3
        go_wp2
        go_ret
        exact SubmitPost.err H.out hB3 HE.out (by decide)
      | false =>
        have HT := Lib.hid ht
        clear ht
        have h3 := H.out.grow hB3
        obtain ⟨a, cc, rfl, hI⟩ := h3.ints
        have q0 := h3.q0
        by_cases h64 : (64 : Int) ≤ ((tagsOf its).length : Int)
        · have HE : Hid (submitE its c = 7) := by show submitE its c = 7; rw [tagsOf_len] at h64; simp [submitE, HV.out, HT.out]; omega
          clear h3 hI hbx3
          go_wp2
          go_ret
          exact SubmitPost.err H.out hB3 HE.out (by decide)
        · have HE : Hid (submitE its c = 0) := by show submitE its c = 0; rw [tagsOf_len] at h64; simp [submitE, HV.out, HT.out]; omega
          have b0 : w3.cell? ⟨w.heap.size, 0, none⟩ = some (.int .i64 c.tag) := by rw [World.cell?, hbx3.out]; rfl
          have hqlt := h3.qlt
          have hfq := h3.free 0
          have hT3 := h3.tags
          have H3 := Lib.hid h3
          have hl6 : (tagsOf its).length < 64 := by omega
          clear hI h3
          go_wp2_with fail
          have HKQ : Hid (∀ (W4 : World) (o : Obj), (w3.alloc o).drew.grownBy W4 (Value.slice a (tagsOf its).length cc).ownBlock → W4.heap[q]? = w3.heap[q]?) := fun W4 o hg => by
            rw [hg.block q (by show q < (w3.alloc o).heap.size; simp; omega) (fun e => H3.out.tq e.symm)]
            exact RowKit.Below.heap_alloc w3 o q hqlt
          go_region_law (refine step_append_lies _ rfl (.tmp 33) (.tmp 36) 31 rfl 0 3 i0 (.int .i64 0) 1 8 Tryd.underlying31 hi hz0 hz1 hz2 rfl (by decide) (.slice a (tagsOf its).length cc) (tagsOf its).length ((tagsOf its).map (Value.int .i64)) rfl ((World.ownsRow.alloc (w := w3) hT3 _).drew) ⟨w3.heap.size, 0, none⟩ 1 1 [.int .i64 c.tag] rfl rfl (cell_new_one w3 _ 3) (by intro u hu; simp at hu; subst hu; rfl) (by omega) (by unfold maxLen; omega) (by omega) (Nat.zero_le _) (w3.heap.size + 1) (by simp) ?_; intro gg cap w4 hown4 hgrow4 hat4 hlt4; have hq4 := HKQ.out w4 _ hgrow4; have gf4 : w4.frozen? ⟨q, 0, none⟩ = false := (by rw [World.frozen?_of_block (w := w3) hq4]; exact hfq); have gq4 : w4.cell? ⟨q, 0, none⟩ = some (.slice a (tagsOf its).length cc) := (by rw [World.cell?_of_block (w := w3) hq4]; exact q0))
          all_goals
            have hM := Mid.mk' H.out hB3 hbx3.out hs3 hown4 hgrow4 hat4
            generalize w4.setCell ⟨q, 0, none⟩ (.slice (some ⟨gg, 0, none⟩) ((tagsOf its).length + 1) cap) = w5 at hM ⊢
            have HM := Lib.hid hM
            have hdw : RowKit.Below w5.heap.size w5 w5.drew := (RowKit.Below.refl _ _).drew
            have hql : q < w5.heap.size := by
              rcases Nat.lt_or_ge q w5.heap.size with h | h
              · exact h
              · have := hM.box; rw [Array.getElem?_eq_none h] at this; cases this
            have hwl : w.heap.size < w5.heap.size := by
              rcases Nat.lt_or_ge w.heap.size w5.heap.size with h | h
              · exact h
              · have := hM.cbox; rw [Array.getElem?_eq_none h] at this; cases this
            have hqm : q ≠ m1 := H.out.parts.1
            have hwm : w.heap.size ≠ m1 := by have := H.out.cm.lt; omega
            have SB : ∀ W : World, W.heap[q]? = w5.heap[q]? → W.heap[w.heap.size]? = w5.heap[w.heap.size]? → (W.cell? ⟨q, 1, none⟩ = some (.map (some m1)) ∧ W.cell? ⟨w.heap.size, 0, none⟩ = some (.int .i64 c.tag) ∧ W.cell? ⟨w.heap.size, 1, none⟩ = some (.int .i64 c.kind) ∧ W.cell? ⟨w.heap.size, 2, none⟩ = some (.int .i64 c.ord) ∧ W.cell? ⟨w.heap.size, 3, none⟩ = some (.bool c.force) ∧ W.cell? ⟨w.heap.size, 4, none⟩ = some (.string c.vol) ∧ W.cell? ⟨w.heap.size, 5, none⟩ = some (.string c.oth) ∧ W.cell? ⟨w.heap.size, 6, none⟩ = some (.int .i64 c.pos) ∧ W.cell? ⟨w.heap.size, 7, none⟩ = some (.int .i64 c.len) ∧ W.cell? ⟨w.heap.size, 8, none⟩ = some (.slice c.da c.bs.length c.dc)) := fun W e1 e2 => by
              rw [hM.box] at e1
              rw [hM.cbox] at e2
              refine ⟨?_, ?_, ?_, ?_, ?_, ?_, ?_, ?_, ?_, ?_⟩
              · rw [World.cell?, e1]; rfl
              all_goals (rw [World.cell?, e2]; rfl)
            have SK : Hid (∀ W, RowKit.Below w5.heap.size w5 W → (W.cell? ⟨q, 1, none⟩ = some (.map (some m1)) ∧ W.cell? ⟨w.heap.size, 0, none⟩ = some (.int .i64 c.tag) ∧ W.cell? ⟨w.heap.size, 1, none⟩ = some (.int .i64 c.kind) ∧ W.cell? ⟨w.heap.size, 2, none⟩ = some (.int .i64 c.ord) ∧ W.cell? ⟨w.heap.size, 3, none⟩ = some (.bool c.force) ∧ W.cell? ⟨w.heap.size, 4, none⟩ = some (.string c.vol) ∧ W.cell? ⟨w.heap.size, 5, none⟩ = some (.string c.oth) ∧ W.cell? ⟨w.heap.size, 6, none⟩ = some (.int .i64 c.pos) ∧ W.cell? ⟨w.heap.size, 7, none⟩ = some (.int .i64 c.len) ∧ W.cell? ⟨w.heap.size, 8, none⟩ = some (.slice c.da c.bs.length c.dc))) := fun W hW => SB W (hW.block q hql) (hW.block _ hwl)
            have SKM : Hid (∀ W6 W7, RowKit.Below w5.heap.size w5 W6 → W6.mapTurned W7 m1 → (W7.cell? ⟨q, 1, none⟩ = some (.map (some m1)) ∧ W7.cell? ⟨w.heap.size, 0, none⟩ = some (.int .i64 c.tag) ∧ W7.cell? ⟨w.heap.size, 1, none⟩ = some (.int .i64 c.kind) ∧ W7.cell? ⟨w.heap.size, 2, none⟩ = some (.int .i64 c.ord) ∧ W7.cell? ⟨w.heap.size, 3, none⟩ = some (.bool c.force) ∧ W7.cell? ⟨w.heap.size, 4, none⟩ = some (.string c.vol) ∧ W7.cell? ⟨w.heap.size, 5, none⟩ = some (.string c.oth) ∧ W7.cell? ⟨w.heap.size, 6, none⟩ = some (.int .i64 c.pos) ∧ W7.cell? ⟨w.heap.size, 7, none⟩ = some (.int .i64 c.len) ∧ W7.cell? ⟨w.heap.size, 8, none⟩ = some (.slice c.da c.bs.length c.dc))) := fun W6 W7 hW ht => by
              have h67 := Turn.of_map ht
              exact SB W7 ((h67.block q (Nat.lt_of_lt_of_le hql hW.size) hqm).trans (hW.block q hql)) ((h67.block _ (Nat.lt_of_lt_of_le hwl hW.size) hwm).trans (hW.block _ hwl))
            have HC5 : Hid (CmdOk w5.drew c) := (HC.out.turn hM.turn (fun b o hl e => HCAP.out b o hl e)).mono hdw
            have HMS : Hid (∀ (w6 : World) (v : Value), RowKit.Below w5.drew.heap.size w5.drew w6 → ∃ w7, (Instr.mapUpdate 65 (.map (some m1)) (.int .i64 c.tag) v).run Tryd.prog w6 = .ok () w7 ∧ MapIs w7 cmdz.val m1 (n + 1) (fun j => if j = c.tag then some v else cmdMap its j) ∧ w6.mapTurned w7 m1) := fun w6 v hb =>
              (HM.out.cm.block (hb.block m1 HM.out.cm.lt)).store (t := 65) (e := 24) Tryd.underlying65 (by unfold maxLen; omega) hwf v
            have HDW := Lib.hid hdw
            clear SB hM hown4 hgrow4 hat4 hq4 gf4 gq4 hql hwl hqm hwm hT3 q0 hfq b0
            go_wp2_with fail
            go_region_held3 (fun W => W.cell? ⟨q, 1, none⟩ = some (.map (some m1)) ∧ W.cell? ⟨w.heap.size, 0, none⟩ = some (.int .i64 c.tag) ∧ W.cell? ⟨w.heap.size, 1, none⟩ = some (.int .i64 c.kind) ∧ W.cell? ⟨w.heap.size, 2, none⟩ = some (.int .i64 c.ord) ∧ W.cell? ⟨w.heap.size, 3, none⟩ = some (.bool c.force) ∧ W.cell? ⟨w.heap.size, 4, none⟩ = some (.string c.vol) ∧ W.cell? ⟨w.heap.size, 5, none⟩ = some (.string c.oth) ∧ W.cell? ⟨w.heap.size, 6, none⟩ = some (.int .i64 c.pos) ∧ W.cell? ⟨w.heap.size, 7, none⟩ = some (.int .i64 c.len) ∧ W.cell? ⟨w.heap.size, 8, none⟩ = some (.slice c.da c.bs.length c.dc))
              (first | exact SKM.out _ _ (HDW.out.trans hb6) hturn7 | exact SK.out _ (HDW.out.trans hb6) | exact SK.out _ HDW.out | exact SK.out _ (RowKit.Below.refl _ _))
              (first | (go_at_call 65; refine (dup_any c _ HC5.out).mono ?_; rintro e w6 ⟨⟨da, dc, rfl, hok6, hfr6, _⟩, hb6⟩; obtain ⟨w7, hrun7, hmap7, hturn7⟩ := HMS.out w6 (c.re da dc).val hb6))
            all_goals
              have hfin := Lib.hid (Mid.done H.out HM.out (HDW.out.trans hb6) hwf HT.out hok6 hfr6 hmap7 hturn7)
              have hfrx : Hid (∀ b o, da = some ⟨b, o, none⟩ → w.heap.size ≤ b) := fun b o e => Nat.le_trans HM.out.turn.size (hfr6 b o e)
              clear hmap7 hturn7 hrun7 hok6 hfr6 hb6
              go_wp2
              go_ret
              exact ⟨ret_int HE.out.symm, hfin.out.2.1, fun hne => absurd HE.out hne, fun _ => ⟨da, dc, _, hfin.out.1, hfin.out.2.2, hfrx.out⟩⟩
end Go.Proofs.YtfbafjlhdbjgoaaDoor
