/- A list of acts opened. -/
import Derived.Test.YtfbafjlhdbjgoaaDoorG2
import Derived.Test.YtfbafjlhdbjgoaaDoorR11
namespace Go.Proofs.YtfbafjlhdbjgoaaDoor
set_option linter.unusedVariables false
set_option linter.unusedSimpArgs false
open Go.RowKit Go.Sort Go.ChangeShapes Go.WideShapes Go.Deep
set_option maxRecDepth 100000

def shape44 (d : Option TypeDesc) : Option (List (TypeId × Nat)) := match d with
  | some (.struct fs) => some (fs.toList.map fun f => (f.type, f.offset))
  | _ => none
theorem u44s : shape44 (Tryd.prog.underlying 44) = some [(3, 0), (3, 1), (24, 2)] := by kernel_rfl
theorem u44 : ∃ f0 f1 f2 : Field, Tryd.prog.underlying 44 = some (.struct #[f0, f1, f2]) ∧ f0.type = 3 ∧ f0.offset = 0 ∧ f1.type = 3 ∧ f1.offset = 1 ∧ f2.type = 24 ∧ f2.offset = 2 := by
  have h := u44s
  cases hu : Tryd.prog.underlying 44 with
  | none => rw [hu] at h; cases h
  | some d =>
    rw [hu] at h
    cases d <;> first | (cases h; done) | skip
    rename_i fs
    obtain ⟨l⟩ := fs
    simp only [shape44, Option.some.injEq] at h
    match l, h with
    | [f0, f1, f2], h =>
      simp only [List.map_cons, List.map_nil, List.cons.injEq, Prod.mk.injEq, and_true] at h
      exact ⟨f0, f1, f2, rfl, h.1.1, h.1.2, h.2.1.1, h.2.1.2, h.2.2.1, h.2.2.2⟩
theorem cells44 : Tryd.prog.cellsOf 44 = 11 := by kernel_rfl
theorem bytes44 : Tryd.prog.bytesOf 44 = 120 := by kernel_rfl
instance : Inhabited ActC := ⟨⟨0, 0, cmdz⟩⟩

section
variable {H : Type} {enc : TypeId × Value → H} {w : World} {base : Nat} {spare : Nat → Bool} {held : Bool}
theorem act_at {b o n : Nat} {cs : List Value} {y : DataW H × List MemPlace} (hc : w.cells? base ⟨b, o, none⟩ 11 = some cs) (h : DataW.trod enc Tryd.prog w base spare held n 44 cs = some y) (hs : Small 44 y.1) :
    ∃ x : ActC, (CmdOk w x.c ∧ (Lit.int .i64 x.K).wf = true) ∧ ActAt w b o x := by
  obtain ⟨f0, f1, f2, hu, a0, b0, a1, b1, a2, b2⟩ := u44
  obtain ⟨_, hcl, hat⟩ := World.cells?_some hc
  obtain ⟨ys, n', hn', hy, hlen, hyl, hf⟩ := DataW.trod_struct hu h
  have hat' : ∀ j, j < 11 → w.cell? ⟨b, o + j, none⟩ = cs[j]? := fun j hj => by
    have := hat j hj
    rwa [Go.WideShapes.add_plain] at this
  match ys, hyl with
  | [y0, y1, y2], _ =>
    have t0 := hf 0 f0 rfl
    have t1 := hf 1 f1 rfl
    have t2 := hf 2 f2 rfl
    rw [a0, b0, cells3] at t0
    rw [a1, b1, cells3] at t1
    rw [a2, b2, cells24] at t2
    obtain ⟨z0, e0, _, _⟩ := DataW.trod_int Tryd.underlying3 t0
    obtain ⟨z1, e1, _, w1⟩ := DataW.trod_int Tryd.underlying3 t1
    have s2 : Small 24 y2.1 := fun m hm => hs m (by
      have hd : y.1 = .agg ([y0, y1, y2].map (·.1)) := by rw [hy]
      rw [hd]
      unfold DataW.weights
      rw [hu]
      refine DataW.weights_mem_each (j := 2) (t := 24) (d := y2.1) ?_ rfl m hm
      simp [a2])
    obtain ⟨xs, n2, hn2, hy2, hlen2, hxl, hg⟩ := DataW.trod_struct u24 t2
    have h9 : fields24.size = 9 := rfl
    have hy21 : y2.1 = .agg (xs.map (·.1)) := by rw [hy2]
    rw [hy21] at s2
    have k0 : cs[0]? = some (.int .i64 z0) := by
      have : ((cs.drop 0).take 1)[0]? = some (.int .i64 z0) := by rw [e0]; rfl
      simpa using this
    have k1 : cs[1]? = some (.int .i64 z1) := by
      have : ((cs.drop 1).take 1)[0]? = some (.int .i64 z1) := by rw [e1]; rfl
      simpa using this
    obtain ⟨c, hok, e0', e1', e2', e3', e4', e5', e6', e7', e8'⟩ := cmd_of (V := fun j => cs.getD (2 + j) (.bool false)) (ys := xs) (n := n2) (fun j f hj => by
      obtain ⟨ho, hk⟩ := hone_of one24 j f hj
      have hjl : j < fields24.size := (Array.getElem?_eq_some_iff.1 hj).1
      have h1 := hg j f hj
      rw [ho, hk] at h1
      have hv : (((cs.drop 2).take fields24.size).drop j).take 1 = [cs.getD (2 + j) (.bool false)] := by
        rw [List.drop_take, List.take_take, List.drop_drop, h9]
        rw [show min 1 (9 - j) = 1 by omega]
        have hj2 : 2 + j < cs.length := by omega
        rw [List.drop_eq_getElem_cons hj2, List.take_succ_cons, List.take_zero]
        simp [List.getD_eq_getElem?_getD, List.getElem?_eq_getElem hj2]
      rw [hv] at h1
      have hys : xs[j]? = some (xs[j]'(by omega)) := List.getElem?_eq_getElem (by omega)
      exact ⟨_, hys, h1.trans hys⟩) s2
    have key : ∀ j, j < 9 → ∀ v, cs.getD (2 + j) (.bool false) = v → w.cell? ⟨b, o + (2 + j), none⟩ = some v := fun j hj v hv => by
      rw [hat' (2 + j) (by omega), List.getElem?_eq_getElem (by omega), ← hv]
      simp [List.getD_eq_getElem?_getD, List.getElem?_eq_getElem (show 2 + j < cs.length by omega)]
    exact ⟨⟨z0, z1, c⟩, ⟨hok, w1⟩, (hat' 0 (by omega)).trans k0, (hat' 1 (by omega)).trans k1, key 0 (by omega) _ e0', key 1 (by omega) _ e1', key 2 (by omega) _ e2', key 3 (by omega) _ e3', key 4 (by omega) _ e4', key 5 (by omega) _ e5', key 6 (by omega) _ e6', key 7 (by omega) _ e7', key 8 (by omega) _ e8'⟩
theorem open_acts {v : Value} {d : DataW H} {p : List MemPlace} {r : Reach} {b0 : Nat} (hv : Value.okWide Tryd.prog w r b0 35 v) (h : DataW.Trod enc Tryd.prog w base spare held 35 v d p) (hs : Small 35 d) :
    ∃ la ls lc, v = .slice la ls.length lc ∧ Acts w la ls ∧ (ls.length : Int) ≤ 17592186044416 := by
  obtain ⟨fuel, hf⟩ := h
  obtain ⟨a0, l0, c0, rfl⟩ := okWide_slice Tryd.underlying35 hv
  rw [show (Value.slice a0 l0 c0).cells.toList = [.slice a0 l0 c0] from rfl] at hf
  rcases open_slice Tryd.underlying35 hf with ⟨h0, _⟩ | ⟨a, len, cap, m, n', D, Pl, hcs, hb, hl, hm, hmm, hx, hi⟩
  · exact ⟨none, [], 0, by simpa using h0, ⟨fun i c hc => (by cases hc), fun h => absurd h (by decide)⟩, by simp⟩
  · have hlm : len ≤ m := by rw [hmm]; split <;> omega
    simp only [Prod.mk.injEq] at hx
    obtain ⟨rfl, _⟩ := hx
    obtain ⟨hw, hel⟩ := Small.slice Tryd.underlying35 hs
    rw [bytes44] at hw
    simp only [List.length_map, List.length_range] at hw
    have hr := reachBytes_lt
    rw [cells44] at hi
    obtain ⟨b, o, sp⟩ := a
    by_cases hp : 0 < len
    · have hsp : sp = none := by
        obtain ⟨cs', hc, _⟩ := hi 0 (by omega)
        obtain ⟨_, hcl, hat⟩ := World.cells?_some hc
        have h0 := hat 0 (by omega)
        rw [List.getElem?_eq_getElem (by omega)] at h0
        simpa [Addr.add] using World.cell?_spot h0
      subst hsp
      obtain ⟨B, hB⟩ := choose_lt (α := ActC) (n := len) (p := fun i x => (CmdOk w x.c ∧ (Lit.int .i64 x.K).wf = true) ∧ ActAt w b (o + i * 11) x) (fun i hil => by
        obtain ⟨cs', hc, ht⟩ := hi i (by omega)
        rw [Go.WideShapes.add_plain] at hc
        exact act_at hc ht (hel _ (List.mem_map.2 ⟨i, by simpa using hil, rfl⟩)))
      refine ⟨some ⟨b, o, none⟩, (List.range len).map B, cap, by simpa using hcs, ⟨fun i c hc => ?_, fun _ => ⟨b, o, rfl, fun i c hc => ?_⟩⟩, by simp; omega⟩
      · obtain ⟨hil, rfl⟩ := map_range_some hc
        exact (hB i hil).1
      · obtain ⟨hil, rfl⟩ := map_range_some hc
        exact (hB i hil).2
    · have : len = 0 := by omega
      subst this
      exact ⟨_, [], cap, by simpa using hcs, ⟨fun i c hc => (by cases hc), fun h => absurd h (by decide)⟩, by simp⟩
end
end Go.Proofs.YtfbafjlhdbjgoaaDoor
