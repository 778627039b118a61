/- Acts; large; both queues made. -/
import Derived.Test.YtfbafjlhdbjgoaaDoorR9
namespace Go.Proofs.YtfbafjlhdbjgoaaDoor
set_option linter.unusedVariables false
set_option linter.unusedSimpArgs false
open Go.RowKit Go.Sort
set_option maxRecDepth 100000

structure ActC where
  kind : Int
  K : Int
  c : Cmd
def ActAt (w : World) (b o : Nat) (x : ActC) : Prop := w.cell? ⟨b, o, none⟩ = some (.int .i64 x.kind) ∧ w.cell? ⟨b, o + 1, none⟩ = some (.int .i64 x.K) ∧ w.cell? ⟨b, o + 2, none⟩ = some (.int .i64 x.c.tag) ∧ w.cell? ⟨b, o + 3, none⟩ = some (.int .i64 x.c.kind) ∧ w.cell? ⟨b, o + 4, none⟩ = some (.int .i64 x.c.ord) ∧ w.cell? ⟨b, o + 5, none⟩ = some (.bool x.c.force) ∧ w.cell? ⟨b, o + 6, none⟩ = some (.string x.c.vol) ∧ w.cell? ⟨b, o + 7, none⟩ = some (.string x.c.oth) ∧ w.cell? ⟨b, o + 8, none⟩ = some (.int .i64 x.c.pos) ∧ w.cell? ⟨b, o + 9, none⟩ = some (.int .i64 x.c.len) ∧ w.cell? ⟨b, o + 10, none⟩ = some (.slice x.c.da x.c.bs.length x.c.dc)
theorem ActAt.mono {w w' : World} {b o : Nat} {x : ActC} (h : ActAt w b o x) (hb : RowKit.Below w.heap.size w w') : ActAt w' b o x := by
  obtain ⟨h0, h1, h2, h3, h4, h5, h6, h7, h8, h9, h10⟩ := h
  exact ⟨cell_keep hb h0, cell_keep hb h1, cell_keep hb h2, cell_keep hb h3, cell_keep hb h4, cell_keep hb h5, cell_keep hb h6, cell_keep hb h7, cell_keep hb h8, cell_keep hb h9, cell_keep hb h10⟩
def Acts (w : World) (a : Option Addr) (ls : List ActC) : Prop :=
  (∀ (i : Nat) (x : ActC), ls[i]? = some x → CmdOk w x.c ∧ (Lit.int .i64 x.K).wf = true) ∧ (0 < ls.length → ∃ b o, a = some ⟨b, o, none⟩ ∧ ∀ (i : Nat) (x : ActC), ls[i]? = some x → ActAt w b (o + i * 11) x)
theorem Acts.mono {w w' : World} {a : Option Addr} {ls : List ActC} (h : Acts w a ls) (hb : RowKit.Below w.heap.size w w') : Acts w' a ls :=
  ⟨fun i x hx => ⟨(h.1 i x hx).1.mono hb, (h.1 i x hx).2⟩, fun hl => by
    obtain ⟨b, o, e, hc⟩ := h.2 hl
    exact ⟨b, o, e, fun i x hx => (hc i x hx).mono hb⟩⟩

/-- What large answers. -/
def LargeRet (ls : List ActC) (e : Ending) : Prop := ∃ b, e = .returned (.bool b) ∧ (b = false → ls.length ≤ 150)
set_option maxHeartbeats 2000000 in
theorem large_any (la : Option Addr) (lc : Nat) (ls : List ActC) (w : World) (h : Acts w la ls) (hm : (ls.length : Int) ≤ 17592186044416) :
    Calls Tryd.prog 28 #[.slice la ls.length lc] w fun e w' => LargeRet ls e ∧ RowKit.Below w.heap.size w w' := by
  have HH := Lib.hid h
  clear h
  go_enter Tryd.func28, Tryd.ntmps28
  go_wp2
  go_loopg [4, 7] (ls.length) (fun g _ i wr => ∃ k, k ≤ ls.length ∧ g = ls.length - k ∧ i = .int .i64 (k : Nat) ∧ RowKit.Below w.heap.size w wr)
  case atStart => exact ⟨0, Nat.zero_le _, by simp, rfl, RowKit.Below.refl _ _⟩
  case round =>
    obtain ⟨k, hk, rfl, rfl, hB⟩ := hrel
    by_cases hkl : k < ls.length
    · obtain ⟨x, hx⟩ : ∃ x, ls[k]? = some x := ⟨_, List.getElem?_eq_getElem hkl⟩
      obtain ⟨b, o, rfl, hcs⟩ := HH.out.2 (by omega)
      obtain ⟨t0, t1, t2, t3, t4, t5, t6, t7, t8, t9, t10⟩ := (hcs k x hx).mono hB
      have hB2 := hB.trans ((below_box wr (actArr x.kind x.K x.c) 44).mono hB.size)
      clear hcs hx
      by_cases g1 : (100 : Int) < (x.c.bs.length : Int)
      · go_wp2
        go_ret
        exact ⟨⟨true, rfl, fun h => by cases h⟩, hB2⟩
      · by_cases g2 : (100 : Int) < (x.c.vol.size : Int)
        · go_wp2
          go_ret
          exact ⟨⟨true, rfl, fun h => by cases h⟩, hB2⟩
        · by_cases g3 : (100 : Int) < (x.c.oth.size : Int)
          · go_wp2
            go_ret
            exact ⟨⟨true, rfl, fun h => by cases h⟩, hB2⟩
          · go_wp2
            go_roundg (ls.length - (k + 1))
            case measure => omega
            case rel => exact ⟨k + 1, by omega, rfl, by go_num, hB2⟩
    · go_wp2
      go_ret
      exact ⟨⟨_, rfl, fun h => by have := of_decide_eq_false h; omega⟩, hB⟩

/-- Both queues, as they are made. -/
theorem PW.new {w wc : World} {q m1 m2 : Nat} (h : AW w wc q m1 m2 0 (.slice none 0 0) []) : PW w (wc.alloc (.cells #[.slice none 0 0] 42)) q m1 m2 0 (.slice none 0 0) [] wc.heap.size (.slice none 0 0) [] := by
  have hb := below_box wc #[.slice none 0 0] 42
  refine ⟨h.grow hb, ⟨heap_alloc_new wc _, World.ownsRow_nil _ _ _ _, by simp [Value.ownBlock], fun x hx => (by cases hx), fun x hx => (by cases hx), List.nodup_nil⟩, fun k hk => ?_, fun k hk hr => ?_, fun x hx => (by cases hx), fun x hx => (by cases hx)⟩
  · rcases hk with rfl | e
    · exact h.bel.size
    · cases e
  · rcases hr with rfl | e
    · have := qf_lt h.qa hk; omega
    · cases e
theorem eqv_nil : Eqv [] [] := rfl
end Go.Proofs.YtfbafjlhdbjgoaaDoor
