/- Slices of commands, numbers and bools opened; what a row's post asks where the call only lays new blocks. -/
import Derived.Test.YtfbafjlhdbjgoaaDoorG1
namespace Go.Proofs.YtfbafjlhdbjgoaaDoor
set_option linter.unusedVariables false
set_option linter.unusedSimpArgs false
open Go.RowKit Go.Sort Go.ChangeShapes Go.WideShapes Go.Deep
set_option maxRecDepth 100000

section
variable {H : Type} {enc : TypeId × Value → H} {P : Program} {w : World} {base : Nat} {spare : Nat → Bool} {held : Bool}
theorem open_slice_fields {t e : TypeId} {fs : Array Field} {fuel : Nat} {cs : List Value} {x : DataW H × List MemPlace} (ht : P.underlying t = some (.slice e)) (he : P.underlying e = some (.struct fs))
    (hone : oneCellFields P fs = true) (hC : P.cellsOf e = fs.size) (h : DataW.trod enc P w base spare held fuel t cs = some x) :
    (cs = [.slice none 0 0] ∧ x = (.nil, [])) ∨
    ∃ (a : Addr) (len cap m : Nat) (D : Nat → DataW H) (Pl : Nat → List MemPlace), cs = [.slice (some a) len cap] ∧ base ≤ a.block ∧ len ≤ cap ∧ cap ≤ maxLen ∧ m = (if spare a.block then cap else len) ∧
      x = (.slice ((List.range len).map D) ((List.range (m - len)).map fun j => D (len + j)), MemPlace.row a (m * fs.size) ++ (List.range m).flatMap Pl) ∧
      ∀ i, i < m → ∃ (ys : List (DataW H × List MemPlace)) (n : Nat), D i = .agg (ys.map (·.1)) ∧ Pl i = ys.flatMap (·.2) ∧ ys.length = fs.size ∧
        ∀ (j : Nat) (f : Field), fs[j]? = some f → ∃ (v : Value) (y : DataW H × List MemPlace), w.cell? (a.add (i * fs.size + j)) = some v ∧ ys[j]? = some y ∧ DataW.trod enc P w base spare held n f.type [v] = some y := by
  rcases open_slice ht h with h0 | ⟨a, len, cap, m, n, D, Pl, hcs, hb, hl, hm, hmm, hx, hi⟩
  · exact .inl h0
  · refine .inr ⟨a, len, cap, m, D, Pl, hcs, hb, hl, hm, hmm, by rw [hC] at hx; exact hx, fun i him => ?_⟩
    obtain ⟨cs', hc, ht'⟩ := hi i him
    rw [hC] at hc
    obtain ⟨ys, n', hn', hy, hlen, hyl, hf⟩ := DataW.trod_struct he ht'
    obtain ⟨_, hcl, hat⟩ := World.cells?_some hc
    simp only [Prod.mk.injEq] at hy
    refine ⟨ys, n', hy.1, hy.2, hyl, fun j f hj => ?_⟩
    obtain ⟨ho, hk⟩ := hone_of hone j f hj
    have hjl : j < fs.size := (Array.getElem?_eq_some_iff.1 hj).1
    have hcell := hat j hjl
    have hv : cs'[j]? = some (cs'[j]'(by omega)) := List.getElem?_eq_getElem (by omega)
    have h1 := hf j f hj
    rw [ho, hk] at h1
    have hone' : (cs'.drop j).take 1 = [cs'[j]'(by omega)] := by
      rw [List.drop_eq_getElem_cons (by omega)]
      rfl
    rw [hone'] at h1
    have hys : ys[j]? = some (ys[j]'(by omega)) := List.getElem?_eq_getElem (by omega)
    refine ⟨_, _, ?_, hys, h1.trans hys⟩
    rw [← Go.Deep.add_add, hcell, hv]
end

section
variable {H : Type} {enc : TypeId × Value → H} {w : World} {base : Nat} {spare : Nat → Bool} {held : Bool}
instance : Inhabited Cmd := ⟨ex1⟩

theorem range_some {n i k : Nat} (h : (List.range n)[i]? = some k) : i < n ∧ k = i := by
  obtain ⟨h1, h2⟩ := List.getElem?_eq_some_iff.1 h
  rw [List.getElem_range] at h2
  exact ⟨by simpa using h1, h2.symm⟩
theorem map_range_some {α : Type} {f : Nat → α} {n i : Nat} {x : α} (h : ((List.range n).map f)[i]? = some x) : i < n ∧ x = f i := by
  rw [List.getElem?_map, Option.map_eq_some_iff] at h
  obtain ⟨k, hk, rfl⟩ := h
  obtain ⟨h1, rfl⟩ := range_some hk
  exact ⟨h1, rfl⟩

theorem open_cmds {v : Value} {d : DataW H} {p : List MemPlace} {r : Reach} {b0 : Nat} (hv : Value.okWide Tryd.prog w r b0 27 v) (h : DataW.Trod enc Tryd.prog w base spare held 27 v d p) (hs : Small 27 d) :
    ∃ la ls lc, v = .slice la ls.length lc ∧ Cmds w la ls ∧ (ls.length : Int) ≤ 17592186044416 := by
  obtain ⟨fuel, hf⟩ := h
  obtain ⟨a0, l0, c0, rfl⟩ := okWide_slice Tryd.underlying27 hv
  rw [show (Value.slice a0 l0 c0).cells.toList = [.slice a0 l0 c0] from rfl] at hf
  rcases open_slice_fields Tryd.underlying27 u24 one24 cells24 hf with ⟨h0, _⟩ | ⟨a, len, cap, m, D, Pl, hcs, hb, hl, hm, hmm, hx, hi⟩
  · exact ⟨none, [], 0, by simpa using h0, ⟨fun i c hc => (by cases hc), fun h => absurd h (by decide)⟩, by simp⟩
  · have hlm : len ≤ m := by rw [hmm]; split <;> omega
    simp only [Prod.mk.injEq] at hx
    obtain ⟨rfl, _⟩ := hx
    obtain ⟨hw, hel⟩ := Small.slice Tryd.underlying27 hs
    rw [bytes24] at hw
    simp only [List.length_map, List.length_range] at hw
    have hr := reachBytes_lt
    obtain ⟨b, o, sp⟩ := a
    have h9 : fields24.size = 9 := rfl
    rw [h9] at hi
    by_cases hp : 0 < len
    · have hsp : sp = none := by
        obtain ⟨ys, n, _, _, _, hf⟩ := hi 0 (by omega)
        obtain ⟨v0, y0, h0, _⟩ := hf 0 _ rfl
        simpa [Addr.add] using World.cell?_spot h0
      subst hsp
      obtain ⟨B, hB⟩ := choose_lt (α := Cmd) (n := len) (p := fun i c => CmdOk w c ∧ BoxAt w b (o + i * 9) c) (fun i hil => by
        obtain ⟨ys, n, hD, _, _, hf⟩ := hi i (by omega)
        have hsm : Small 24 (DataW.agg (ys.map (·.1))) := by
          rw [← hD]; exact hel _ (List.mem_map.2 ⟨i, by simpa using hil, rfl⟩)
        obtain ⟨V, hV⟩ := choose_lt (α := Value) (n := 9) (p := fun j v => w.cell? ⟨b, o + i * 9 + j, none⟩ = some v ∧ ∀ f, fields24[j]? = some f → ∃ y, ys[j]? = some y ∧ DataW.trod enc Tryd.prog w base spare held n f.type [v] = some y) (fun j hj => by
          obtain ⟨v, y, hc, hy, ht⟩ := hf j (fields24[j]'hj) (Array.getElem?_eq_getElem hj)
          rw [Go.WideShapes.add_plain] at hc
          refine ⟨v, by rw [show o + i * 9 + j = o + (i * 9 + j) by omega]; exact hc, fun f hf' => ⟨y, hy, ?_⟩⟩
          rw [Array.getElem?_eq_getElem hj] at hf'
          rw [← Option.some.inj hf']; exact ht)
        obtain ⟨c, hok, e0, e1, e2, e3, e4, e5, e6, e7, e8⟩ := cmd_of (V := V) (ys := ys) (n := n) (fun j f hj => (hV j (Array.getElem?_eq_some_iff.1 hj).1).2 f hj) hsm
        refine ⟨c, hok, ?_, ?_, ?_, ?_, ?_, ?_, ?_, ?_, ?_⟩
        · rw [← e0]; exact (hV 0 (by omega)).1
        · rw [← e1]; exact (hV 1 (by omega)).1
        · rw [← e2]; exact (hV 2 (by omega)).1
        · rw [← e3]; exact (hV 3 (by omega)).1
        · rw [← e4]; exact (hV 4 (by omega)).1
        · rw [← e5]; exact (hV 5 (by omega)).1
        · rw [← e6]; exact (hV 6 (by omega)).1
        · rw [← e7]; exact (hV 7 (by omega)).1
        · rw [← e8]; exact (hV 8 (by omega)).1)
      refine ⟨some ⟨b, o, none⟩, (List.range len).map B, cap, by simpa using hcs, ⟨fun i c hc => ?_, fun _ => ⟨b, o, rfl, fun i c hc => ?_⟩⟩, by simp; omega⟩
      · obtain ⟨hil, rfl⟩ := map_range_some hc
        exact (hB i hil).1
      · obtain ⟨hil, rfl⟩ := map_range_some hc
        exact (hB i hil).2
    · have : len = 0 := by omega
      subst this
      exact ⟨_, [], cap, by simpa using hcs, ⟨fun i c hc => (by cases hc), fun h => absurd h (by decide)⟩, by simp⟩

theorem open_intsl {v : Value} {d : DataW H} {p : List MemPlace} {r : Reach} {b0 : Nat} (hv : Value.okWide Tryd.prog w r b0 31 v) (h : DataW.Trod enc Tryd.prog w base spare held 31 v d p) (hs : Small 31 d) :
    ∃ la xs lc, v = .slice la xs.length lc ∧ Ints w la xs ∧ (xs.length : Int) ≤ 17592186044416 := by
  obtain ⟨fuel, hf⟩ := h
  obtain ⟨a0, l0, c0, rfl⟩ := okWide_slice Tryd.underlying31 hv
  rw [show (Value.slice a0 l0 c0).cells.toList = [.slice a0 l0 c0] from rfl] at hf
  rcases open_slice Tryd.underlying31 hf with ⟨h0, _⟩ | ⟨a, len, cap, m, n', D, Pl, hcs, hb, hl, hm, hmm, hx, hi⟩
  · exact ⟨none, [], 0, by simpa using h0, fun h => absurd h (by decide), by simp⟩
  · have hlm : len ≤ m := by rw [hmm]; split <;> omega
    simp only [Prod.mk.injEq] at hx
    obtain ⟨rfl, _⟩ := hx
    obtain ⟨hw, _⟩ := Small.slice Tryd.underlying31 hs
    rw [bytes3] at hw
    simp only [List.length_map, List.length_range] at hw
    have hr := reachBytes_lt
    rw [cells3] at hi
    have key : ∀ i, i < len → ∃ z : Int, w.cell? (a.add i) = some (.int .i64 z) := fun i hil => by
      obtain ⟨cs', hc, ht⟩ := hi i (by omega)
      obtain ⟨_, _, hat⟩ := World.cells?_some hc
      obtain ⟨z, rfl, _, _⟩ := DataW.trod_int Tryd.underlying3 ht
      have := hat 0 (by omega)
      exact ⟨z, by simpa [Addr.add] using this⟩
    obtain ⟨b, o, sp⟩ := a
    by_cases hp : 0 < len
    · have hsp : sp = none := by
        obtain ⟨z, h0⟩ := key 0 hp
        simpa [Addr.add] using World.cell?_spot h0
      subst hsp
      obtain ⟨B, hB⟩ := choose_lt (α := Int) (n := len) (p := fun i z => w.cell? ⟨b, o + i, none⟩ = some (.int .i64 z)) (fun i hil => by
        obtain ⟨z, hz⟩ := key i hil
        rw [Go.WideShapes.add_plain] at hz
        exact ⟨z, hz⟩)
      refine ⟨some ⟨b, o, none⟩, (List.range len).map B, cap, by simpa using hcs, fun _ => ⟨b, o, rfl, fun i c hc => ?_⟩, by simp; omega⟩
      obtain ⟨hil, rfl⟩ := map_range_some hc
      exact hB i hil
    · have : len = 0 := by omega
      subst this
      exact ⟨_, [], cap, by simpa using hcs, fun h => absurd h (by decide), by simp⟩

theorem open_boolsl {v : Value} {d : DataW H} {p : List MemPlace} {r : Reach} {b0 : Nat} (hv : Value.okWide Tryd.prog w r b0 28 v) (h : DataW.Trod enc Tryd.prog w base spare held 28 v d p) (hs : Small 28 d) :
    ∃ la xs lc, v = .slice la xs.length lc ∧ Bools w la xs ∧ (xs.length : Int) ≤ 140737488355328 := by
  obtain ⟨fuel, hf⟩ := h
  obtain ⟨a0, l0, c0, rfl⟩ := okWide_slice Tryd.underlying28 hv
  rw [show (Value.slice a0 l0 c0).cells.toList = [.slice a0 l0 c0] from rfl] at hf
  rcases open_slice Tryd.underlying28 hf with ⟨h0, _⟩ | ⟨a, len, cap, m, n', D, Pl, hcs, hb, hl, hm, hmm, hx, hi⟩
  · exact ⟨none, [], 0, by simpa using h0, fun h => absurd h (by decide), by simp⟩
  · have hlm : len ≤ m := by rw [hmm]; split <;> omega
    simp only [Prod.mk.injEq] at hx
    obtain ⟨rfl, _⟩ := hx
    obtain ⟨hw, _⟩ := Small.slice Tryd.underlying28 hs
    rw [show Tryd.prog.bytesOf 4 = 1 by kernel_rfl] at hw
    simp only [List.length_map, List.length_range] at hw
    have hr := reachBytes_lt
    rw [cells4] at hi
    have key : ∀ i, i < len → ∃ z : Bool, w.cell? (a.add i) = some (.bool z) := fun i hil => by
      obtain ⟨cs', hc, ht⟩ := hi i (by omega)
      obtain ⟨_, _, hat⟩ := World.cells?_some hc
      obtain ⟨z, rfl, _⟩ := DataW.trod_bool Tryd.underlying4 ht
      have := hat 0 (by omega)
      exact ⟨z, by simpa [Addr.add] using this⟩
    obtain ⟨b, o, sp⟩ := a
    by_cases hp : 0 < len
    · have hsp : sp = none := by
        obtain ⟨z, h0⟩ := key 0 hp
        simpa [Addr.add] using World.cell?_spot h0
      subst hsp
      obtain ⟨B, hB⟩ := choose_lt (α := Bool) (n := len) (p := fun i z => w.cell? ⟨b, o + i, none⟩ = some (.bool z)) (fun i hil => by
        obtain ⟨z, hz⟩ := key i hil
        rw [Go.WideShapes.add_plain] at hz
        exact ⟨z, hz⟩)
      refine ⟨some ⟨b, o, none⟩, (List.range len).map B, cap, by simpa using hcs, fun _ => ⟨b, o, rfl, fun i c hc => ?_⟩, by simp; omega⟩
      obtain ⟨hil, rfl⟩ := map_range_some hc
      exact hB i hil
    · have : len = 0 := by omega
      subst this
      exact ⟨_, [], cap, by simpa using hcs, fun h => absurd h (by decide), by simp⟩
end

section
variable {H : Type} {enc : TypeId × Value → H}
theorem laidOut : laidOutB Tryd.prog = true := by kernel_rfl
theorem trodAll_stays {W W' : World} (hb : RowKit.Below W.heap.size W W') : ∀ {ts : List TypeId} {vs : List Value} {ds : List (DataW H)} {ps : List MemPlace},
    (∀ t ∈ ts, Tryd.prog.readableRec t = true ∧ t < Tryd.prog.types.size) → DataW.TrodAll enc Tryd.prog W 0 (fun _ => true) true ts vs ds ps → (∀ x ∈ ps, x.block < W.heap.size) →
    DataW.TrodAll enc Tryd.prog W' 0 (fun b => decide (b < W.heap.size)) true ts vs ds ps
  | [], [], [], ps, _, h, _ => h
  | t :: ts, v :: vs, d :: ds, ps, hr, h, hlt => by
    obtain ⟨p, q, h1, h2, rfl⟩ := h
    have := hr t (by simp)
    exact ⟨p, q, Below.trod laidOut this.1 this.2 h1 hb (fun x hx => hlt x (by simp [hx])), trodAll_stays hb (fun t ht => hr t (by simp [ht])) h2 (fun x hx => hlt x (by simp [hx])), rfl⟩
  | [], _ :: _, _, _, _, h, _ => h.elim
  | [], [], _ :: _, _, _, h, _ => h.elim
  | _ :: _, [], _, _, _, h, _ => h.elim
  | _ :: _, _ :: _, [], _, _, h, _ => h.elim

theorem post_grown {f : Func} {s : ChangeSpec} {W W' : World} {args : Array Value} {ds gs : List (DataW H)} {before : List MemPlace} (hv : s.vars = []) (hr : f.resultTypes = #[4]) (hp : ∀ t ∈ f.params.toList, Tryd.prog.readableRec t = true ∧ t < Tryd.prog.types.size)
    (hW : DataW.Whole enc Tryd.prog f.params.toList s.vars false W args.toList ds gs before) (hfn : s.fn H ds = { results := [.lit (.bool true)], args := ds }) (hb : RowKit.Below W.heap.size W W') :
    s.post enc Tryd.prog f false true false false W args (.bool true) W' := by
  have hlt := hW.lt
  have hW' := hW
  obtain ⟨p, q, hA, hV, rfl, _, _⟩ := hW
  rw [hv] at hV
  obtain ⟨rfl, rfl⟩ := trodVars_none hV
  refine ⟨ds, [], _, [], p, [], hW', ?_, ?_, ?_, hb.frame _, fun h => by cases h⟩
  · rw [List.append_nil, hfn, hr]
    exact trodAll_cons_mk (shut_bool Tryd.underlying4 _) trodAll_mk0
  · rw [List.append_nil, hfn]
    exact trodAll_stays hb hp hA (fun x hx => hlt x (by simp [hx]))
  · rw [List.append_nil, hfn, hv]
    rfl
end
end Go.Proofs.YtfbafjlhdbjgoaaDoor
