/- Arguments opened: a command, a list of commands, numbers, bools; and what a row's post asks. -/
import Derived.Test.YtfbafjlhdbjgoaaDoorE1
import Derived.Deep.Slices
import Derived.Deep.Fields
import Derived.Deep.Grids
import Derived.ChangeSame
import Derived.Carry
import Derived.SizedLaws
import Derived.OpenShut
namespace Go.Proofs.YtfbafjlhdbjgoaaDoor
set_option linter.unusedVariables false
set_option linter.unusedSimpArgs false
open Go.RowKit Go.Sort Go.ChangeShapes Go.WideShapes Go.Deep

set_option maxRecDepth 100000
/-- The weights of a datum are within what the form lets in. -/
def Small {H : Type} (t : TypeId) (d : DataW H) : Prop := ∀ n ∈ d.weights Tryd.prog t, n ≤ reachBytes

theorem small_arg {H : Type} {ts : List TypeId} {ds : List (DataW H)} (h : (DataW.weightsEach Tryd.prog ts ds).all (· ≤ reachBytes) = true) {j : Nat} {t : TypeId} {d : DataW H} (ht : ts[j]? = some t) (hd : ds[j]? = some d) : Small t d := fun n hn => by
  simpa using List.all_eq_true.1 h n (DataW.weights_mem_each ht hd n hn)
theorem Small.string {H : Type} {t : TypeId} {bytes : List UInt8} (h : Small t (.lit (.string bytes) : DataW H)) : bytes.length ≤ reachBytes := h _ (by simp [DataW.weights])
theorem mem_weightsAll {H : Type} {P : Program} {e : TypeId} {d : DataW H} {n : Nat} (hn : n ∈ d.weights P e) : ∀ {l : List (DataW H)}, d ∈ l → n ∈ DataW.weightsAll P e l
  | [], hd => by cases hd
  | d0 :: r, hd => by
    simp only [DataW.weightsAll, List.mem_append]
    rcases List.mem_cons.1 hd with rfl | h
    · exact Or.inl hn
    · exact Or.inr (mem_weightsAll hn h)
theorem Small.slice {H : Type} {t e : TypeId} {elems spare : List (DataW H)} (hu : Tryd.prog.underlying t = some (.slice e)) (h : Small t (.slice elems spare)) : (elems.length + spare.length) * Tryd.prog.bytesOf e ≤ reachBytes ∧ ∀ d ∈ elems, Small e d := by
  refine ⟨h _ (by simp [DataW.weights, hu]), fun d hd n hn => h n ?_⟩
  simp only [DataW.weights, hu, List.mem_cons, List.mem_append]
  exact Or.inr (Or.inl (mem_weightsAll hn hd))

def fields24 : Array Field := #[{ name := "Tag", type := 3, offset := 0, embedded := false, tag := "", pkgPath := "", byteOffset := 0 }, { name := "Kind", type := 3, offset := 1, embedded := false, tag := "", pkgPath := "", byteOffset := 8 }, { name := "Order", type := 3, offset := 2, embedded := false, tag := "", pkgPath := "", byteOffset := 16 }, { name := "Force", type := 4, offset := 3, embedded := false, tag := "", pkgPath := "", byteOffset := 24 }, { name := "Volume", type := 9, offset := 4, embedded := false, tag := "", pkgPath := "", byteOffset := 32 }, { name := "Other", type := 9, offset := 5, embedded := false, tag := "", pkgPath := "", byteOffset := 48 }, { name := "At", type := 3, offset := 6, embedded := false, tag := "", pkgPath := "", byteOffset := 64 }, { name := "Len", type := 3, offset := 7, embedded := false, tag := "", pkgPath := "", byteOffset := 72 }, { name := "Data", type := 22, offset := 8, embedded := false, tag := "", pkgPath := "", byteOffset := 80 }]
theorem u24 : Tryd.prog.underlying 24 = some (.struct fields24) := Tryd.underlying24
theorem one24 : oneCellFields Tryd.prog fields24 = true := by kernel_rfl
theorem cells24 : Tryd.prog.cellsOf 24 = fields24.size := by kernel_rfl
theorem cells60 : Tryd.prog.cellsOf 60 = 8 := by kernel_rfl
theorem cells5 : Tryd.prog.cellsOf 5 = 1 := by kernel_rfl
theorem cells3 : Tryd.prog.cellsOf 3 = 1 := by kernel_rfl
theorem cells4 : Tryd.prog.cellsOf 4 = 1 := by kernel_rfl
theorem bytes60 : Tryd.prog.bytesOf 60 = 8 := by kernel_rfl
theorem bytes24 : Tryd.prog.bytesOf 24 = 104 := by kernel_rfl
theorem bytes3 : Tryd.prog.bytesOf 3 = 8 := by kernel_rfl

section
variable {H : Type} {enc : TypeId × Value → H} {w : World} {base : Nat} {spare : Nat → Bool} {held : Bool}

theorem Small.field {parts : List (DataW H)} (h : Small 24 (.agg parts)) {j : Nat} {f : Field} {d : DataW H} (hf : fields24[j]? = some f) (hd : parts[j]? = some d) : Small f.type d := fun n hn => h n (by
  unfold DataW.weights
  rw [u24]
  exact DataW.weights_mem_each (by simp [hf]) hd n hn)

theorem block_at {b o n : Nat} {cs : List Value} {y : DataW H × List MemPlace} (hc : w.cells? base ⟨b, o, none⟩ 8 = some cs) (h : DataW.trod enc Tryd.prog w base spare held n 60 cs = some y) : ∃ x : B8, At8 w b o x := by
  obtain ⟨_, hcl, hat⟩ := World.cells?_some hc
  obtain ⟨xs, m, _, _, _, hxl, hx⟩ := DataW.trod_array Tryd.underlying60 h
  have key : ∀ i, i < 8 → ∃ z : Int, w.cell? ⟨b, o + i, none⟩ = some (.int .u8 z) := by
    intro i hi
    have h1 := hx i hi
    rw [cells5, Nat.mul_one] at h1
    have hys : xs[i]? = some (xs[i]'(by omega)) := List.getElem?_eq_getElem (by omega)
    rw [hys] at h1
    obtain ⟨z, hz, _, _⟩ := DataW.trod_int Tryd.underlying5 h1
    have h2 : cs[i]? = some (.int .u8 z) := by
      have : ((cs.drop i).take 1)[0]? = some (.int .u8 z) := by rw [hz]; rfl
      simpa using this
    have h3 := hat i hi
    rw [h2] at h3
    rw [Go.WideShapes.add_plain] at h3
    exact ⟨z, h3⟩
  obtain ⟨z0, h0⟩ := key 0 (by omega)
  obtain ⟨z1, h1⟩ := key 1 (by omega)
  obtain ⟨z2, h2⟩ := key 2 (by omega)
  obtain ⟨z3, h3⟩ := key 3 (by omega)
  obtain ⟨z4, h4⟩ := key 4 (by omega)
  obtain ⟨z5, h5⟩ := key 5 (by omega)
  obtain ⟨z6, h6⟩ := key 6 (by omega)
  obtain ⟨z7, h7⟩ := key 7 (by omega)
  exact ⟨⟨z0, z1, z2, z3, z4, z5, z6, z7⟩, h0, h1, h2, h3, h4, h5, h6, h7⟩

instance : Inhabited B8 := ⟨zero8⟩
theorem open_blocks {n : Nat} {v : Value} {y : DataW H × List MemPlace} (h : DataW.trod enc Tryd.prog w base spare held n 22 [v] = some y) (hs : Small 22 y.1) :
    ∃ da bs dc, v = .slice da bs.length dc ∧ Dat w da bs ∧ (bs.length : Int) ≤ 17592186044416 := by
  rcases open_slice Tryd.underlying22 h with ⟨h0, _⟩ | ⟨a, len, cap, m, n', D, Pl, hcs, hb, hl, hm, hmm, hx, hi⟩
  · exact ⟨none, [], 0, by simpa using h0, fun h => absurd h (by decide), by simp⟩
  · have hlm : len ≤ m := by rw [hmm]; split <;> omega
    subst hx
    have hw := (Small.slice Tryd.underlying22 hs).1
    rw [bytes60] at hw
    simp only [List.length_map, List.length_range] at hw
    have hlen : len * 8 ≤ reachBytes := by omega
    have hr := reachBytes_lt
    rw [cells60] at hi
    obtain ⟨b, o, sp⟩ := a
    by_cases hp : 0 < len
    · have hsp : sp = none := by
        obtain ⟨cs', hc, _⟩ := hi 0 (by omega)
        obtain ⟨_, hcl, hat⟩ := World.cells?_some hc
        have h0 := hat 0 (by omega)
        rw [List.getElem?_eq_getElem (by omega)] at h0
        simpa [Addr.add] using World.cell?_spot h0
      subst hsp
      obtain ⟨B, hB⟩ := choose_lt (α := B8) (n := len) (p := fun i x => At8 w b (o + i * 8) x) (fun i hil => by
        obtain ⟨cs', hc, ht⟩ := hi i (by omega)
        rw [Go.WideShapes.add_plain] at hc
        exact block_at hc ht)
      refine ⟨some ⟨b, o, none⟩, (List.range len).map B, cap, by simpa using hcs, fun _ => ⟨b, o, rfl, fun i x hx => ?_⟩, by simp; omega⟩
      obtain ⟨hil, rfl⟩ : i < len ∧ B i = x := by
        rw [List.getElem?_map, Option.map_eq_some_iff] at hx
        obtain ⟨k, hk, rfl⟩ := hx
        obtain ⟨h1, h2⟩ := List.getElem?_eq_some_iff.1 hk
        rw [List.getElem_range] at h2
        subst h2
        exact ⟨by simpa using h1, rfl⟩
      exact hB i hil
    · have : len = 0 := by omega
      subst this
      exact ⟨_, [], cap, by simpa using hcs, fun h => absurd h (by decide), by simp⟩

theorem cmd_of {ys : List (DataW H × List MemPlace)} {n : Nat} {V : Nat → Value} (h : ∀ (j : Nat) (f : Field), fields24[j]? = some f → ∃ y, ys[j]? = some y ∧ DataW.trod enc Tryd.prog w base spare held n f.type [V j] = some y) (hs : Small 24 (.agg (ys.map (·.1)))) :
    ∃ c : Cmd, CmdOk w c ∧ V 0 = .int .i64 c.tag ∧ V 1 = .int .i64 c.kind ∧ V 2 = .int .i64 c.ord ∧ V 3 = .bool c.force ∧ V 4 = .string c.vol ∧ V 5 = .string c.oth ∧ V 6 = .int .i64 c.pos ∧ V 7 = .int .i64 c.len ∧ V 8 = .slice c.da c.bs.length c.dc := by
  have hr := reachBytes_lt
  obtain ⟨y0, _, t0⟩ := h 0 _ rfl
  obtain ⟨y1, _, t1⟩ := h 1 _ rfl
  obtain ⟨y2, _, t2⟩ := h 2 _ rfl
  obtain ⟨y3, _, t3⟩ := h 3 _ rfl
  obtain ⟨y4, s4, t4⟩ := h 4 _ rfl
  obtain ⟨y5, s5, t5⟩ := h 5 _ rfl
  obtain ⟨y6, _, t6⟩ := h 6 _ rfl
  obtain ⟨y7, _, t7⟩ := h 7 _ rfl
  obtain ⟨y8, s8, t8⟩ := h 8 _ rfl
  have w4 := hs.field (j := 4) rfl (d := y4.1) (by simp [s4])
  have w5 := hs.field (j := 5) rfl (d := y5.1) (by simp [s5])
  have w8 := hs.field (j := 8) rfl (d := y8.1) (by simp [s8])
  obtain ⟨z0, e0, _⟩ := DataW.trod_int Tryd.underlying3 t0
  obtain ⟨z1, e1, _⟩ := DataW.trod_int Tryd.underlying3 t1
  obtain ⟨z2, e2, _⟩ := DataW.trod_int Tryd.underlying3 t2
  obtain ⟨z3, e3, _⟩ := DataW.trod_bool Tryd.underlying4 t3
  obtain ⟨z4, e4, f4, _⟩ := DataW.trod_string Tryd.underlying9 t4
  obtain ⟨z5, e5, f5, _⟩ := DataW.trod_string Tryd.underlying9 t5
  obtain ⟨z6, e6, _⟩ := DataW.trod_int Tryd.underlying3 t6
  obtain ⟨z7, e7, _⟩ := DataW.trod_int Tryd.underlying3 t7
  obtain ⟨da, bs, dc, e8, hd, hl⟩ := open_blocks t8 w8
  simp only [List.cons.injEq, and_true] at e0 e1 e2 e3 e4 e5 e6 e7
  subst f4 f5
  have l4 := w4.string
  have l5 := w5.string
  refine ⟨⟨z0, z1, z2, z3, z4, z5, z6, z7, da, dc, bs⟩, ⟨hd, hl, ?_, ?_⟩, e0, e1, e2, e3, e4, e5, e6, e7, e8⟩
  · have : z4.size = z4.data.toList.length := rfl
    show z4.size ≤ _
    omega
  · have : z5.size = z5.data.toList.length := rfl
    show z5.size ≤ _
    omega

theorem open_cmd {r : Reach} {b0 : Nat} {v : Value} {d : DataW H} {p : List MemPlace} (hv : Value.okWide Tryd.prog w r b0 24 v) (h : DataW.Trod enc Tryd.prog w base spare held 24 v d p) (hs : Small 24 d) : ∃ c : Cmd, v = c.val ∧ CmdOk w c := by
  obtain ⟨cs, rfl, hsz⟩ := okWide_struct u24 hv
  obtain ⟨fuel, hf⟩ := h
  obtain ⟨xs, n, _, hx, _, hlen, hg⟩ := DataW.trod_struct u24 hf
  simp only [Prod.mk.injEq] at hx
  obtain ⟨rfl, _⟩ := hx
  have hsz9 : cs.size = 9 := hsz.trans cells24
  obtain ⟨c, hok, e0, e1, e2, e3, e4, e5, e6, e7, e8⟩ := cmd_of (V := fun j => cs.getD j (.bool false)) (ys := xs) (n := n) (fun j f hj => by
    obtain ⟨ho, hk⟩ := hone_of one24 j f hj
    have hjl : j < fields24.size := (Array.getElem?_eq_some_iff.1 hj).1
    have h9 : fields24.size = 9 := rfl
    have h1 := hg j f hj
    rw [ho, hk] at h1
    have hv : ((Value.agg cs).cells.toList.drop j).take 1 = [cs.getD j (.bool false)] := by
      have : (Value.agg cs).cells = cs := rfl
      rw [this, List.drop_eq_getElem_cons (by simp; omega)]
      simp [Array.getD, show j < cs.size by omega]
    rw [hv] at h1
    have hys : xs[j]? = some (xs[j]'(by omega)) := List.getElem?_eq_getElem (by omega)
    exact ⟨_, hys, h1.trans hys⟩) hs
  refine ⟨c, ?_, hok⟩
  show Value.agg cs = Value.agg _
  congr 1
  obtain ⟨l⟩ := cs
  match l, hsz9 with
  | [a0, a1, a2, a3, a4, a5, a6, a7, a8], _ =>
    simp at e0 e1 e2 e3 e4 e5 e6 e7 e8
    simp [e0, e1, e2, e3, e4, e5, e6, e7, e8]
end
end Go.Proofs.YtfbafjlhdbjgoaaDoor
