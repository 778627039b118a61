/- The walk of QueueCopy. -/
import Derived.Test.YtfbafjlhdbjgoaaDoorQ16
import Derived.Test.YtfbafjlhdbjgoaaDoorQ15
import Derived.Test.YtfbafjlhdbjgoaaDoorQ17
import Derived.Test.YtfbafjlhdbjgoaaDoorA5
import Derived.BigRegion
namespace Go.Proofs.YtfbafjlhdbjgoaaDoor
set_option linter.unusedVariables false
set_option linter.unusedSimpArgs false
open Go.RowKit Go.Sort
set_option maxRecDepth 100000

set_option maxHeartbeats 4000000 in
theorem queueCopy_walk (c : Cmd) (w : World) (h : CmdOk w c) : Calls Tryd.prog 16 #[c.val] w fun e w' => e = .returned (.bool true) ∧ RowKit.Below w.heap.size w w' := by
  have hb := below_box w c.arr 24
  have hbox : (w.alloc (.cells c.arr 24)).heap[w.heap.size]? = some (.cells c.arr 24 (0, 0)) := heap_alloc_new w _
  have v1 := h.vs
  have v2 := h.os
  have v3 := h.len
  have H := Lib.hid h
  have HBX := Lib.hid hbox
  have HB := Lib.hid hb
  clear h hb hbox
  go_enter Tryd.func16, Tryd.ntmps16
  go_wp2_with fail
  refine (awake41_any _).mono ?_
  rintro e w1 ⟨rfl, hB1⟩
  have hBw := HB.out.trans (hB1.mono HB.out.size)
  have e1 : w1.heap[w.heap.size]? = some (.cells c.arr 24 (0, 0)) := (hB1.block w.heap.size (by simp)).trans HBX.out
  have E1 := Lib.hid e1
  have p0 : w1.cell? ⟨w.heap.size, 0, none⟩ = some (.int .i64 c.tag) := by rw [World.cell?, e1]; rfl
  have p1 : w1.cell? ⟨w.heap.size, 1, none⟩ = some (.int .i64 c.kind) := by rw [World.cell?, e1]; rfl
  have p2 : w1.cell? ⟨w.heap.size, 2, none⟩ = some (.int .i64 c.ord) := by rw [World.cell?, e1]; rfl
  have p3 : w1.cell? ⟨w.heap.size, 3, none⟩ = some (.bool c.force) := by rw [World.cell?, e1]; rfl
  have p4 : w1.cell? ⟨w.heap.size, 4, none⟩ = some (.string c.vol) := by rw [World.cell?, e1]; rfl
  have p5 : w1.cell? ⟨w.heap.size, 5, none⟩ = some (.string c.oth) := by rw [World.cell?, e1]; rfl
  have p6 : w1.cell? ⟨w.heap.size, 6, none⟩ = some (.int .i64 c.pos) := by rw [World.cell?, e1]; rfl
  have p7 : w1.cell? ⟨w.heap.size, 7, none⟩ = some (.int .i64 c.len) := by rw [World.cell?, e1]; rfl
  have p8 : w1.cell? ⟨w.heap.size, 8, none⟩ = some (.slice c.da c.bs.length c.dc) := by rw [World.cell?, e1]; rfl
  clear e1 hB1
  by_cases g1 : (100 : Int) < (c.bs.length : Int)
  · go_wp2_with fail
    go_ret
    exact ⟨rfl, hBw⟩
  · by_cases g2 : (100 : Int) < (c.vol.size : Int)
    · go_wp2_with fail
      go_ret
      exact ⟨rfl, hBw⟩
    · by_cases g3 : (100 : Int) < (c.oth.size : Int)
      · go_wp2_with fail
        go_ret
        exact ⟨rfl, hBw⟩
      · go_wp2_with fail
        refine (refValid_any c _ (by omega) (by omega)).mono ?_
        rintro e w2 ⟨rfl, hB2⟩
        have hBx := hBw.trans (hB2.mono hBw.size)
        cases hv : validB c with
        | false =>
          clear hv
          go_wp2_with fail
          go_ret
          exact ⟨rfl, hBx⟩
        | true =>
          have HV := Lib.hid hv
          clear hv
          have q8 := cell_keep hB2 p8
          have hd2 := (H.out.mono hBx).dat
          have E2 : Hid (w2.heap[w.heap.size]? = some (.cells c.arr 24 (0, 0))) := (hB2.block w.heap.size (block_lt_of_cell p0)).trans E1.out
          have hd3 : Hid (Dat (w2.alloc (.cells #[] 60)) c.da c.bs) := hd2.mono (below_box _ _ _)
          have hlt2 : w.heap.size < w2.heap.size := Nat.lt_of_lt_of_le (block_lt_of_cell p0) hB2.size
          clear p0 p1 p2 p3 p4 p5 p6 p7 p8 hB2 hBw hd2
          go_wp2_with (at_builtin; refine wpList_append_blocks rfl _ _ rfl w2.heap.size _ 0 [] rfl (ownsRow_empty w2) c.da c.dc c.bs rfl hd3.out (by omega) (by simp) ?_)
          intro v' w3 hown' hgrow'
          obtain ⟨a', c', rfl, hD, hfr, hth⟩ := ownsBlocks hown'
          have hB3 : RowKit.Below w2.heap.size w2 w3 := (below_box w2 #[] 60).grown hgrow' (by simp) (fun k hk => by injection hk with hk; simp at hk; omega)
          have E3 : Hid (w3.heap[w.heap.size]? = some (.cells c.arr 24 (0, 0))) := (hB3.block w.heap.size hlt2).trans E2.out
          have e3 := E3.out
          have p0 : w3.cell? ⟨w.heap.size, 0, none⟩ = some (.int .i64 c.tag) := by rw [World.cell?, e3]; rfl
          have p1 : w3.cell? ⟨w.heap.size, 1, none⟩ = some (.int .i64 c.kind) := by rw [World.cell?, e3]; rfl
          have p2 : w3.cell? ⟨w.heap.size, 2, none⟩ = some (.int .i64 c.ord) := by rw [World.cell?, e3]; rfl
          have p3 : w3.cell? ⟨w.heap.size, 3, none⟩ = some (.bool c.force) := by rw [World.cell?, e3]; rfl
          have p4 : w3.cell? ⟨w.heap.size, 4, none⟩ = some (.string c.vol) := by rw [World.cell?, e3]; rfl
          have p5 : w3.cell? ⟨w.heap.size, 5, none⟩ = some (.string c.oth) := by rw [World.cell?, e3]; rfl
          have p6 : w3.cell? ⟨w.heap.size, 6, none⟩ = some (.int .i64 c.pos) := by rw [World.cell?, e3]; rfl
          have p7 : w3.cell? ⟨w.heap.size, 7, none⟩ = some (.int .i64 c.len) := by rw [World.cell?, e3]; rfl
          have p8 : w3.cell? ⟨w.heap.size, 8, none⟩ = some (.slice c.da c.bs.length c.dc) := by rw [World.cell?, e3]; rfl
          have HD := Lib.hid hD
          have HFR := Lib.hid hfr
          have HTH := Lib.hid hth
          clear hown' hgrow' hD hfr hth e3 hd3 q8 E2
          have hB03 := hBx.trans (hB3.mono hBx.size)
          go_wp2_with fail
          have hb4 : RowKit.Below w3.heap.size w3 (w3.alloc (.cells #[.int .i64 c.tag, .int .i64 c.kind, .int .i64 c.ord, .bool c.force, .string c.vol, .string c.oth, .int .i64 c.pos, .int .i64 c.len, .slice a' c.bs.length c'] 24)) := below_box w3 _ 24
          have M4 : Hid ((w3.alloc (.cells #[.int .i64 c.tag, .int .i64 c.kind, .int .i64 c.ord, .bool c.force, .string c.vol, .string c.oth, .int .i64 c.pos, .int .i64 c.len, .slice a' c.bs.length c'] 24)).heap[w3.heap.size]? = some (.cells (c.re a' c').arr 24 (0, 0))) := heap_alloc_new w3 _
          generalize w3.alloc (.cells #[.int .i64 c.tag, .int .i64 c.kind, .int .i64 c.ord, .bool c.force, .string c.vol, .string c.oth, .int .i64 c.pos, .int .i64 c.len, .slice a' c.bs.length c'] 24) = w4 at hb4 M4 ⊢
          have hB04 := hB03.trans (hb4.mono hB03.size)
          have E4 : Hid (w4.heap[w.heap.size]? = some (.cells c.arr 24 (0, 0))) := below_heap hb4 E3.out
          clear p0 p1 p2 p3 p4 p5 p6 p7 p8
          refine (AW.new w4).mono ?_
          rintro e w5 ⟨q, m1, m2, rfl, h5⟩
          have M5 : Hid (w5.heap[w3.heap.size]? = some (.cells (c.re a' c').arr 24 (0, 0))) := below_heap h5.bel M4.out
          obtain ⟨s0, s1, s2, s3, s4, s5, s6, s7, s8⟩ := boxCells M5.out
          have hD5 : Dat w5 a' c.bs := (HD.out.mono hb4).mono h5.bel
          have hS : submitE [] (c.re a' c') = 0 := by
            have : validB (c.re a' c') = true := HV.out
            simp [submitE, hasTag, this]
          have hab : ∀ b o, 0 < c.bs.length → a' = some ⟨b, o, none⟩ → b < w3.heap.size := fun b o hl e => dat_lt HD.out hl e
          have CS := Lib.hid (submit_any h5.qa (c.re a' c') ⟨hD5, v3, v1, v2⟩ (fun b o hl e hq => by
            have h1 := h5.low b hq
            have h2 := hab b o hl e
            have h3 := hb4.size
            omega) (by omega) (by simp))
          have H5 := Lib.hid h5
          have HS := Lib.hid hS
          have HAB := Lib.hid hab
          clear h5 hD5 hS hab
          go_wp2_with fail
          refine CS.out.mono ?_
          rintro e w6 ⟨he, ht, _, hz⟩
          rw [HS.out] at he
          subst he
          obtain ⟨d1, e1, tv1, h6, hF6, hfr6⟩ := hz HS.out
          have A6 := Lib.hid (H5.out.turn ht h6 hF6)
          have HFR6 := Lib.hid hfr6
          have hB06 := (A6.out.lower hB04).bel
          have E6 : Hid (w6.heap[w.heap.size]? = some (.cells c.arr 24 (0, 0))) := below_heap A6.out.bel E4.out
          have D6 : Hid (Firsts w6 a' c.bs.length) := Firsts.of ((HD.out.mono hb4).mono A6.out.bel)
          have T6 : Hid (Thaw w6 a') := (HTH.out.mono hb4).mono A6.out.bel
          clear ht hz h6 hF6 hfr6 s0 s1 s2 s3 s4 s5 s6 s7 s8 CS
          go_wp2_with fail
          go_loopg [6, 48] (c.bs.length) (fun g _ i wr => ∃ k, k ≤ c.bs.length ∧ g = c.bs.length - k ∧ i = .int .i64 (k : Nat) ∧ Turn (Blk a') w6 wr ∧ Firsts wr a' c.bs.length ∧ Thaw wr a')
          case atStart => exact ⟨0, Nat.zero_le _, by simp, rfl, Turn.refl _ _, D6.out, T6.out⟩
          case round =>
            obtain ⟨k, hk, rfl, rfl, ht7, hF7, hT7⟩ := hrel
            by_cases hkl : k < c.bs.length
            · obtain ⟨b, o, v, rfl, hc0⟩ := hF7 k hkl
              have f0 := hT7.free (o + k * 8)
              go_wp2_with fail
              go_region
              go_wp2
              go_roundg (c.bs.length - (k + 1))
              case measure => omega
              case rel => exact ⟨k + 1, by omega, rfl, by go_num, Turn.trans (F := Blk (some ⟨b, o, none⟩)) (b := wr.drew) ⟨ht7.os, ht7.tape, ht7.output, ht7.size, ht7.block⟩ (Turn.of_cell wr.drew ⟨b, o + k * 8, none⟩ _) (fun i _ e => ⟨o, by subst e; rfl⟩), Firsts.store (w := wr.drew) hF7 _ _, Thaw.setCell (w := wr.drew) hT7 _ _⟩
            · obtain ⟨w7, hw7⟩ : ∃ w7, w7 = wr := ⟨_, rfl⟩
              subst hw7
              have hblk : ∀ k, Blk a' k → w2.heap.size ≤ k := fun k ⟨o, e⟩ => HFR.out k o e
              have hB07 : RowKit.Below w.heap.size w w7 := hB06.trans (ht7.below hB06.size (fun i hi => Nat.le_trans (Nat.le_of_lt hlt2) (hblk i hi)))
              have hblt : ∀ k, Blk a' k → k < w3.heap.size := fun k ⟨o, e⟩ => by
                obtain ⟨cs, t, hc⟩ := HTH.out k o e
                exact heap_lt hc
              have hs45 := H5.out.bel.size
              have hs34 := hb4.size
              have h7 : QAt w7 q m1 m2 (0 + 1) tv1 ([] ++ [((c.re a' c').re d1 e1, false)]) := A6.out.qa.keep ht7 (fun k hk hq => by
                have h1 := A6.out.low k hq
                have h2 := hblt k hk
                omega) (fun x hx b o hl e hk => by
                have hx' : x = ((c.re a' c').re d1 e1, false) := by simpa using hx
                subst hx'
                have h1 := HFR6.out b o e
                have h2 := hblt b hk
                omega)
              have E7 : Hid (w7.heap[w.heap.size]? = some (.cells c.arr 24 (0, 0))) := ht7.heap E6.out (fun hk => by
                have := hblk _ hk
                omega)
              have hwf := valid_wf HV.out
              have hcb : Dat w7 c.da c.bs := H.out.dat.mono hB07
              have H7 := Lib.hid h7
              have CG := Lib.hid (getOne h7 hwf)
              have HLOW : Hid (∀ k, QF q m1 m2 tv1 k → w.heap.size ≤ k) := (A6.out.lower hB04).low
              have HFRX : Hid (∀ b o, d1 = some ⟨b, o, none⟩ → w.heap.size ≤ b) := fun b o e => Nat.le_trans hB04.size (Nat.le_trans hs45 (HFR6.out b o e))
              have HCB := Lib.hid hcb
              have HWF := Lib.hid hwf
              obtain ⟨t0, t1, t2, t3, t4, t5, t6, t7, t8⟩ := boxCells E7.out
              have hlt7 : w.heap.size < w7.heap.size := heap_lt E7.out
              clear ht7 hF7 hT7 hblk hblt hs45 hs34 h7 hwf hcb HFR6 A6 D6 T6 HAB HS H5 M5 M4 HD HFR HTH E6 E4 E3
              go_wp2_with fail
              refine CG.out.mono ?_
              rintro e w8 ⟨⟨d2, e2, rfl, hD2, hfr2, hth2⟩, hb8⟩
              have hB08 := hB07.trans (hb8.mono hB07.size)
              have HD2 := Lib.hid hD2
              have HFR2 := Lib.hid hfr2
              have HTH2 := Lib.hid hth2
              have E8 : Hid (w8.heap[w.heap.size]? = some (.cells c.arr 24 (0, 0))) := below_heap hb8 E7.out
              clear hD2 hfr2 hth2 t0 t1 t2 t3 t4 t5 t6 t7 t8
              obtain ⟨t0, t1, t2, t3, t4, t5, t6, t7, t8⟩ := boxCells E8.out
              have hlt8 : w.heap.size < w8.heap.size := heap_lt E8.out
              have hne8 : (w.heap.size == w8.heap.size) = false := by simp; omega
              have hne8' : w.heap.size ≠ w8.heap.size := by omega
              simp only [Nat.zero_add] at t1 t2 t3 t4 t5 t6 t7 t8
              go_wp2_with fail
              have hb9 : RowKit.Below w8.heap.size w8 (w8.alloc (.cells #[.int .i64 c.tag, .int .i64 c.kind, .int .i64 c.ord, .bool c.force, .string c.vol, .string c.oth, .int .i64 c.pos, .int .i64 c.len, .slice d2 c.bs.length e2] 24)) := below_box w8 _ 24
              have M9 : Hid ((w8.alloc (.cells #[.int .i64 c.tag, .int .i64 c.kind, .int .i64 c.ord, .bool c.force, .string c.vol, .string c.oth, .int .i64 c.pos, .int .i64 c.len, .slice d2 c.bs.length e2] 24)).heap[w8.heap.size]? = some (.cells (c.re d2 e2).arr 24 (0, 0))) := heap_alloc_new w8 _
              generalize w8.alloc (.cells #[.int .i64 c.tag, .int .i64 c.kind, .int .i64 c.ord, .bool c.force, .string c.vol, .string c.oth, .int .i64 c.pos, .int .i64 c.len, .slice d2 c.bs.length e2] 24) = w9 at hb9 M9 ⊢
              have hB09 := hB08.trans (hb9.mono hB08.size)
              have hb79 := hb8.trans (hb9.mono hb8.size)
              have hlt9 : w8.heap.size < w9.heap.size := heap_lt M9.out
              clear t0 t1 t2 t3 t4 t5 t6 t7 t8
              refine (same44_eq c d2 c.da e2 c.dc _ (HD2.out.mono hb9) (HCB.out.mono hb79) v3).mono ?_
              rintro e w10 ⟨rfl, hb10⟩
              have hB010 := hB09.trans (hb10.mono hB09.size)
              have hb710 := hb79.trans (hb10.mono hb79.size)
              have hb810 := hb9.trans (hb10.mono hb9.size)
              have M10 : Hid (w10.heap[w8.heap.size]? = some (.cells (c.re d2 e2).arr 24 (0, 0))) := below_heap hb10 M9.out
              have D10 : Hid (Firsts w10 d2 c.bs.length) := Firsts.of (HD2.out.mono hb810)
              have T10 : Hid (Thaw w10 d2) := HTH2.out.mono hb810
              have E10 : Hid (w10.heap[w.heap.size]? = some (.cells c.arr 24 (0, 0))) := below_heap hb810 E8.out
              have hblk : Hid (∀ k, Blk d2 k → w7.heap.size ≤ k ∧ k < w8.heap.size) := fun k ⟨o, e⟩ => ⟨HFR2.out k o e, by
                obtain ⟨cs, t, hc⟩ := HTH2.out k o e
                exact heap_lt hc⟩
              have m8 : w10.cell? ⟨w8.heap.size, 8, none⟩ = some (.slice d2 c.bs.length e2) := (boxCells M10.out).2.2.2.2.2.2.2.2
              go_wp2_with fail
              clear m8
              go_loopg [9, 78] (c.bs.length) (fun g _ i wx => ∃ k, k ≤ c.bs.length ∧ g = c.bs.length - k ∧ i = .int .i64 (k : Nat) ∧ Turn (Blk d2) w10 wx ∧ Firsts wx d2 c.bs.length ∧ Thaw wx d2)
              case atStart => exact ⟨0, Nat.zero_le _, by simp, rfl, Turn.refl _ _, D10.out, T10.out⟩
              case round =>
                obtain ⟨j, hj, rfl, rfl, ht11, hF11, hT11⟩ := hrel
                have M11 : Hid (wr.heap[w8.heap.size]? = some (.cells (c.re d2 e2).arr 24 (0, 0))) := ht11.heap M10.out (fun hk => by
                  have := (hblk.out _ hk).2
                  omega)
                by_cases hjl : j < c.bs.length
                · have m8 : wr.cell? ⟨w8.heap.size, 8, none⟩ = some (.slice d2 c.bs.length e2) := (boxCells M11.out).2.2.2.2.2.2.2.2
                  obtain ⟨b, o, v, rfl, hc0⟩ := hF11 j hjl
                  have f0 := hT11.free (o + j * 8)
                  go_wp2_with fail
                  go_region
                  go_wp2
                  go_roundg (c.bs.length - (j + 1))
                  case measure => omega
                  case rel => exact ⟨j + 1, by omega, rfl, by go_num, Turn.trans (F := Blk (some ⟨b, o, none⟩)) (b := wr.drew) ⟨ht11.os, ht11.tape, ht11.output, ht11.size, ht11.block⟩ (Turn.of_cell wr.drew ⟨b, o + j * 8, none⟩ _) (fun i _ e => ⟨o, by subst e; rfl⟩), Firsts.store (w := wr.drew) hF11 _ _, Thaw.setCell (w := wr.drew) hT11 _ _⟩
                · obtain ⟨wy, hwy⟩ : ∃ wy, wy = wr := ⟨_, rfl⟩
                  subst hwy
                  have hB011 : RowKit.Below w.heap.size w wy := hB010.trans (ht11.below hB010.size (fun i hi => Nat.le_trans hB07.size (hblk.out i hi).1))
                  have E11 : Hid (wy.heap[w.heap.size]? = some (.cells c.arr 24 (0, 0))) := ht11.heap E10.out (fun hk => by
                    have := (hblk.out _ hk).1
                    omega)
                  have h10 := H7.out.grow hb710
                  have h11 : QAt wy q m1 m2 (0 + 1) tv1 ([] ++ [((c.re a' c').re d1 e1, false)]) := h10.keep ht11 (fun k hk hq => by
                    have h1 := qf_lt H7.out hq
                    have h2 := (hblk.out k hk).1
                    omega) (fun x hx b o hl e hk => by
                    have h1 := dat_lt (H7.out.ok x hx).1.dat hl e
                    have h2 := (hblk.out b hk).1
                    omega)
                  have CG2 := Lib.hid (getOne h11 HWF.out)
                  have HC11 : Hid (Dat wy c.da c.bs) := H.out.dat.mono hB011
                  obtain ⟨t0, t1, t2, t3, t4, t5, t6, t7, t8⟩ := boxCells E11.out
                  clear ht11 hF11 hT11 h10 h11
                  go_wp2_with fail
                  refine CG2.out.mono ?_
                  rintro e w12 ⟨⟨d3, e3, rfl, hD3, hfr3, hth3⟩, hb12⟩
                  have hB012 := hB011.trans (hb12.mono hB011.size)
                  have HD3 := Lib.hid hD3
                  have E12 : Hid (w12.heap[w.heap.size]? = some (.cells c.arr 24 (0, 0))) := below_heap hb12 E11.out
                  clear hD3 hfr3 hth3 t0 t1 t2 t3 t4 t5 t6 t7 t8
                  obtain ⟨t0, t1, t2, t3, t4, t5, t6, t7, t8⟩ := boxCells E12.out
                  have hlt12 : w.heap.size < w12.heap.size := heap_lt E12.out
                  simp only [Nat.zero_add] at t1 t2 t3 t4 t5 t6 t7 t8
                  go_wp2_with fail
                  have hb13 := below_box w12 (c.re d3 e3).arr 24
                  have hbx := hb12.trans (hb13.mono hb12.size)
                  refine (same44_eq c d3 c.da e3 c.dc _ (HD3.out.mono hb13) (HC11.out.mono hbx) v3).mono ?_
                  rintro e w14 ⟨rfl, hb14⟩
                  have hB013 := hB012.trans (hb13.mono hB012.size)
                  have hB014 := hB013.trans (hb14.mono hB013.size)
                  clear t0 t1 t2 t3 t4 t5 t6 t7 t8
                  go_wp2_with fail
                  go_ret
                  exact ⟨rfl, hB014⟩
end Go.Proofs.YtfbafjlhdbjgoaaDoor
