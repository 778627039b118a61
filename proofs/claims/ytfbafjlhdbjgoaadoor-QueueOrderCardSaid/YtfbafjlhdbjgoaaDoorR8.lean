/- The reference queue: Submit. -/
import Derived.Test.YtfbafjlhdbjgoaaDoorR7
namespace Go.Proofs.YtfbafjlhdbjgoaaDoor
set_option linter.unusedVariables false
set_option linter.unusedSimpArgs false
open Go.RowKit Go.Sort
set_option maxRecDepth 100000

/-- How the reference's Submit ends. -/
def RSubmit (w : World) (r : Nat) (sv : Value) (its : List QItem) (c : Cmd) (e : Ending) (w' : World) : Prop :=
  e = .returned (.int .i64 (submitE its c)) ∧ Turn (RF r sv) w w' ∧ (submitE its c ≠ 0 → RAt w' r sv its) ∧
  (submitE its c = 0 → ∃ da dc sv', RAt w' r sv' (its ++ [(c.re da dc, false)]) ∧ (∀ j, RF r sv' j → RF r sv j ∨ w.heap.size ≤ j) ∧ ∀ b o, da = some ⟨b, o, none⟩ → w.heap.size ≤ b)
theorem RSubmit.err {w w' : World} {r : Nat} {sv : Value} {its : List QItem} {c : Cmd} {n : Int} (h : RAt w r sv its) (hb : RowKit.Below w.heap.size w w') (hr : submitE its c = n) (h0 : n ≠ 0) : RSubmit w r sv its c (.returned (.int .i64 n)) w' :=
  ⟨by rw [hr], Turn.of_below hb, fun _ => h.grow hb, fun h1 => absurd (hr ▸ h1) h0⟩
theorem RSubmit.done {w W0 w4 : World} {r gg cap : Nat} {sv : Value} {its : List QItem} {c : Cmd} {a' : Option Addr} {c' : Nat} {o : Obj} (h : RAt w r sv its) (hB : RowKit.Below w.heap.size w W0)
    (hD : Dat W0 a' c.bs) (hfr : ∀ b o, a' = some ⟨b, o, none⟩ → w.heap.size ≤ b) (hc : CmdOk w c) (hwf : (Lit.int .i64 c.tag).wf = true) (ht : hasTag its c.tag = false) (hE : submitE its c = 0)
    (hown : w4.ownsRow 0 77 10 (.slice (some ⟨gg, 0, none⟩) (its.length + 1) cap) (its.length + 1) (itFlat its ++ itC (c.re a' c', false))) (hgrow : (W0.alloc o).drew.grownBy w4 sv.ownBlock) (hat : sv.ownBlock = some gg ∨ gg = W0.heap.size + 1) :
    RSubmit w r sv its c (.returned (.int .i64 0)) (w4.setCell ⟨r, 0, none⟩ (.slice (some ⟨gg, 0, none⟩) (its.length + 1) cap)) := by
  have hs0 := hB.size
  have hsz : (W0.alloc o).drew.heap.size = W0.heap.size + 1 := by show (W0.alloc o).heap.size = _; simp
  have hs4 := hgrow.size
  have hT0 : Turn (fun k => sv.ownBlock = some k) W0 w4 := ⟨hgrow.os, hgrow.tape, hgrow.output, by omega, fun k hk hne => (hgrow.block k (by omega) (fun e => hne e.symm)).trans (RowKit.Below.heap_alloc W0 o k hk)⟩
  have hT : Turn (fun k => sv.ownBlock = some k) w w4 := (Turn.of_below (F := fun k => sv.ownBlock = some k) hB).trans hT0 (fun _ _ e => e)
  have hgg : ∀ b o, 0 < c.bs.length → a' = some ⟨b, o, none⟩ → gg ≠ b := fun b o hl e eb => by
    have h1 := dat_lt hD hl e
    have h2 := hfr b o e
    rcases hat with h3 | h3
    · have := h.rows h3; omega
    · omega
  have hnotin : c.tag ∉ tagsOf its := fun hm => by
    unfold tagsOf at hm
    rw [List.mem_map] at hm
    obtain ⟨x, hx, e⟩ := hm
    have : hasTag its c.tag = true := List.any_eq_true.2 ⟨x, hx, by simp [e]⟩
    rw [ht] at this
    cases this
  obtain ⟨hR, hTT, hFF⟩ := h.turned (its' := its ++ [(c.re a' c', false)]) hT (v5 := .slice (some ⟨gg, 0, none⟩) (its.length + 1) cap) (by
      rw [List.length_append, itFlat_app]
      have : itFlat [(c.re a' c', false)] = itC (c.re a' c', false) := by simp [itFlat]
      rw [this]
      exact hown) (fun j hj => by
      injection hj with hj
      have hj : gg = j := hj
      subst hj
      rcases hat with h3 | h3
      · exact Or.inl h3
      · right; omega) (fun y hy => by
      rw [List.mem_append] at hy
      rcases hy with hy | hy
      · exact Or.inl ⟨y, hy, rfl⟩
      · rw [List.mem_singleton] at hy
        subst hy
        refine Or.inr ⟨⟨hD.turn hT0 (fun b o hl e hb => ?_), hc.len, hc.vs, hc.os⟩, hwf, fun b o hl e => ⟨hfr b o e, fun e2 => ?_⟩⟩
        · have h1 := hfr b o e
          have h2 := h.rows hb
          omega
        · injection e2 with e2
          exact hgg b o hl e e2) (by
      have : tagsOf (its ++ [(c.re a' c', false)]) = tagsOf its ++ [c.tag] := by simp [tagsOf, Cmd.re]
      rw [this, List.nodup_append]
      refine ⟨h.nod, by simp, fun a ha b hb => ?_⟩
      rw [List.mem_singleton] at hb
      subst hb
      exact fun e => hnotin (e ▸ ha))
  exact ⟨by rw [hE], hTT, fun h0 => absurd hE h0, fun _ => ⟨a', c', _, hR, hFF, hfr⟩⟩

set_option maxHeartbeats 4000000 in
theorem rSubmit_any {w : World} {r : Nat} {sv : Value} {its : List QItem} (h : RAt w r sv its) (c : Cmd) (hc : CmdOk w c) (hm : its.length ≤ 1000000) :
    Calls Tryd.prog 55 #[.pointer (some ⟨r, 0, none⟩), c.val] w fun e w' => RSubmit w r sv its c e w' := by
  obtain ⟨i0, z, hi, hz0, hz1, hz2, hzs⟩ := info77z
  have hb1 := below_box w c.arr 24
  have hbox : (w.alloc (.cells c.arr 24)).heap[w.heap.size]? = some (.cells c.arr 24 (0, 0)) := heap_alloc_new w _
  have hvm := hc.vm
  have hom := hc.om
  have hbl := hc.len
  have H := Lib.hid h
  have HC := Lib.hid hc
  have HB1 := Lib.hid hb1
  have HBX := Lib.hid hbox
  clear h hc hb1 hbox
  go_enter Tryd.func55, Tryd.ntmps55
  go_wp2_with fail
  refine (refValid_any c _ hvm hom).mono ?_
  rintro e w2 ⟨rfl, hB2⟩
  have hB := HB1.out.trans (hB2.mono HB1.out.size)
  have hbx2 : Hid (w2.heap[w.heap.size]? = some (.cells c.arr 24 (0, 0))) := below_heap hB2 HBX.out
  clear hB2
  cases hv : validB c with
  | false =>
    have HE : Hid (submitE its c = 1) := by show submitE its c = 1; simp [submitE, hv]
    clear hv
    go_wp2
    go_ret
    exact RSubmit.err H.out hB HE.out (by decide)
  | true =>
    have HV := Lib.hid hv
    have hwf := valid_wf hv
    clear hv
    have b0 : w2.cell? ⟨w.heap.size, 0, none⟩ = some (.int .i64 c.tag) := (boxCells hbx2.out).1
    have CF := Lib.hid (find_any (H.out.grow hB) c.tag hm)
    go_wp2_with fail
    refine CF.out.mono ?_
    rintro e w3 ⟨rfl, hB3⟩
    have hBc := hB.trans (hB3.mono hB.size)
    have hbx3 : Hid (w3.heap[w.heap.size]? = some (.cells c.arr 24 (0, 0))) := below_heap hB3 hbx2.out
    clear b0 CF hB3
    cases hf : its.find? (fun x => x.1.tag == c.tag) with
    | some x =>
      obtain ⟨k, hx, hxt, hidx⟩ := find_idx hf
      have HK := Lib.hid hidx
      have HE : Hid (submitE its c = 10) := by show submitE its c = 10; simp [submitE, HV.out, hasTag_some hf]
      have hkn : (0 : Int) ≤ (k : Int) := by omega
      rw [HK.out]
      clear hf hx hxt hidx
      go_wp2
      go_ret
      exact RSubmit.err H.out hBc HE.out (by decide)
    | none =>
      have HK : Hid (idxOf (tagsOf its) c.tag = -1) := find_no hf
      have HT : Hid (hasTag its c.tag = false) := hasTag_none hf
      rw [HK.out]
      have h3 := H.out.grow hBc
      obtain ⟨sa, sc, rfl, _⟩ := h3.items
      have r0 := h3.r0
      clear hf h3
      by_cases h64 : (64 : Int) ≤ (its.length : Int)
      · have HE : Hid (submitE its c = 7) := by show submitE its c = 7; simp [submitE, HV.out, HT.out]; omega
        go_wp2
        go_ret
        exact RSubmit.err H.out hBc HE.out (by decide)
      · have HE : Hid (submitE its c = 0) := by show submitE its c = 0; simp [submitE, HV.out, HT.out]; omega
        have b8 : w3.cell? ⟨w.heap.size, 8, none⟩ = some (.slice c.da c.bs.length c.dc) := (boxCells hbx3.out).2.2.2.2.2.2.2.2
        have hlt3 : w.heap.size < w3.heap.size := heap_lt hbx3.out
        have hd3 : Hid (Dat (w3.alloc (.cells #[] 60)) c.da c.bs) := (HC.out.dat.mono hBc).mono (below_box _ _ _)
        go_wp2_with (at_builtin; refine wpList_append_blocks rfl _ _ rfl w3.heap.size _ 0 [] rfl (ownsRow_empty w3) c.da c.dc c.bs rfl hd3.out (by omega) (by simp) ?_)
        intro v' w4 hown' hgrow'
        obtain ⟨a', c', rfl, hD, hfr, hth⟩ := ownsBlocks hown'
        have hB4 : RowKit.Below w3.heap.size w3 w4 := (below_box w3 #[] 60).grown hgrow' (by simp) (fun k hk => by injection hk with hk; simp at hk; omega)
        have e4 : w4.heap[w.heap.size]? = some (.cells c.arr 24 (0, 0)) := below_heap hB4 hbx3.out
        have f8 : w4.frozen? ⟨w.heap.size, 8, none⟩ = false := by simp [World.frozen?, e4]
        have b8' : w4.cell? ⟨w.heap.size, 8, none⟩ = some (.slice c.da c.bs.length c.dc) := (boxCells e4).2.2.2.2.2.2.2.2
        have hB04 := hBc.trans (hB4.mono hBc.size)
        have E4 := Lib.hid e4
        have HD := Lib.hid hD
        have HFR := Lib.hid hfr
        clear hown' hgrow' hD hfr hth e4 hd3 b8 r0
        go_wp2_with fail
        have hbase : ∀ b o, a' = some ⟨b, o, none⟩ → w.heap.size < b := fun b o e => by have := HFR.out b o e; omega
        have e5 : Hid ((w4.setCell ⟨w.heap.size, 8, none⟩ (.slice a' c.bs.length c')).heap[w.heap.size]? = some (.cells (c.re a' c').arr 24 (0, 0))) := set_row E4.out 8 _
        have D5 : Hid (Dat (w4.setCell ⟨w.heap.size, 8, none⟩ (.slice a' c.bs.length c')) a' c.bs) := HD.out.setCell (fun b o e => by have h1 := hbase b o e; show b ≠ w.heap.size; omega) _
        have hB05 : RowKit.Below w.heap.size w (w4.setCell ⟨w.heap.size, 8, none⟩ (.slice a' c.bs.length c')) := hB04.setCell (p := ⟨w.heap.size, 8, none⟩) (Nat.le_refl _) _
        have HBS := Lib.hid hbase
        generalize w4.setCell ⟨w.heap.size, 8, none⟩ (.slice a' c.bs.length c') = w5 at e5 D5 hB05 ⊢
        have H5 := Lib.hid (H.out.grow hB05)
        have r5 := H5.out.r0
        have rlt := H5.out.rlt
        have fr5 : w5.frozen? ⟨r, 0, none⟩ = false := by simp [World.frozen?, H5.out.box]
        obtain ⟨t0, t1, t2, t3, t4, t5, t6, t7, t8⟩ := boxCells e5.out
        have hlt5 : w.heap.size < w5.heap.size := heap_lt e5.out
        simp only [Nat.zero_add] at t1 t2 t3 t4 t5 t6 t7 t8
        have HRW := Lib.hid H5.out.row
        have HSQ := Lib.hid H5.out.sq
        have HKQ : Hid (∀ (W4 : World) (o : Obj), (w5.alloc o).drew.grownBy W4 (Value.slice sa its.length sc).ownBlock → W4.heap[r]? = w5.heap[r]?) := fun W4 o hg => by
          rw [hg.block r (by show r < (w5.alloc o).heap.size; simp; omega) (fun e => HSQ.out e.symm)]
          exact RowKit.Below.heap_alloc w5 o r rlt
        clear hbase f8 b8'
        go_region_law (refine step_append_lies _ rfl (.tmp 31) (.tmp 34) 40 rfl 0 77 i0 z 10 112 Tryd.underlying40 hi hz0 hz1 hz2 hzs (by decide) (.slice sa its.length sc) its.length (itFlat its) rfl ((World.ownsRow.alloc (w := w5) HRW.out _).drew) ⟨w5.heap.size, 0, none⟩ 1 1 (itC (c.re a' c', false)) rfl rfl (World.news_of_block (heap_alloc_new w5 _)) (by intro u hu; exact itFlat_one [(c.re a' c', false)] u (by simpa [itFlat] using hu)) (by omega) (by unfold maxLen; omega) (by omega) (Nat.zero_le _) (w5.heap.size + 1) (by simp) ?_; intro gg cap w6 hown6 hgrow6 hat6 hlt6; have hq6 := HKQ.out w6 _ hgrow6; have gf6 : w6.frozen? ⟨r, 0, none⟩ = false := (by rw [World.frozen?_of_block (w := w5) hq6]; exact fr5); have gq6 : w6.cell? ⟨r, 0, none⟩ = some (.slice sa its.length sc) := (by rw [World.cell?_of_block (w := w5) hq6]; exact r5))
        all_goals
          have hfin := Lib.hid (RSubmit.done H.out hB05 D5.out (fun b o e => Nat.le_of_lt (HBS.out b o e)) HC.out hwf HT.out HE.out hown6 hgrow6 hat6)
          clear hown6 hgrow6 hat6 hq6 gf6 gq6 hlt6
          go_wp2
          go_ret
          exact hfin.out
end Go.Proofs.YtfbafjlhdbjgoaaDoor
