/- Plain: an order that is made of eligible commands, one after another. -/
import Derived.Test.YtfbafjlhdbjgoaaDoorB7
namespace Go.Proofs.YtfbafjlhdbjgoaaDoor
set_option linter.unusedVariables false
set_option linter.unusedSimpArgs false
open Go.RowKit Go.Sort

/-- The order o, each command eligible at its turn, leaves these done. -/
structure Runs (ls : List Cmd) (o : List Int) (ds : List Bool) : Prop where
  len : ds.length = ls.length
  run : ∀ os', respGo ls (o ++ os') (List.replicate ls.length false) = respGo ls os' ds
  cnt : ds.count true = o.length

theorem Runs.start (ls : List Cmd) : Runs ls [] (List.replicate ls.length false) := ⟨by simp, fun _ => rfl, by simp [List.count_replicate]⟩
theorem count_set_true : ∀ (ds : List Bool) (i : Nat), i < ds.length → doneAt ds i = false → (ds.set i true).count true = ds.count true + 1
  | [], i, hi, _ => by simp at hi
  | x :: ds, 0, _, h => by
    have hx : x = false := by simpa [doneAt] using h
    subst hx
    simp
  | x :: ds, i + 1, hi, h => by
    have := count_set_true ds i (by simpa using hi) (by simpa [doneAt] using h)
    simp only [List.set_cons_succ, List.count_cons]
    omega
theorem Runs.step {ls : List Cmd} {o : List Int} {ds : List Bool} (h : Runs ls o ds) {k : Nat} (hk : k < ls.length) (h0 : doneAt ds k = false) (hf : freeTo ls ds k k = true) : Runs ls (o ++ [(k : Int)]) (ds.set k true) :=
  ⟨by simpa using h.len, fun os' => by rw [List.append_assoc, h.run, List.singleton_append, respGo_on hk h0 hf], by rw [count_set_true ds k (by rw [h.len]; exact hk) h0, h.cnt]; simp⟩
theorem Runs.full {ls : List Cmd} {o : List Int} {ds : List Bool} (h : Runs ls o ds) (hl : o.length = ls.length) : respB ls o = true := by
  have := h.run []
  simp only [List.append_nil] at this
  simp [respB, hl, this, respGo]
theorem count_le_len (ds : List Bool) : ds.count true ≤ ds.length := List.count_le_length
/-- Some command is not done. -/
theorem exists_undone : ∀ (ds : List Bool), ds.count true < ds.length → ∃ i, i < ds.length ∧ doneAt ds i = false ∧ ∀ q, q < i → doneAt ds q = true
  | [], h => by simp at h
  | false :: ds, _ => ⟨0, by simp, by simp [doneAt], fun q hq => by omega⟩
  | true :: ds, h => by
    obtain ⟨i, h1, h2, h3⟩ := exists_undone ds (by simpa using h)
    refine ⟨i + 1, by simpa using h1, by simpa [doneAt] using h2, fun q hq => ?_⟩
    match q, hq with
    | 0, _ => simp [doneAt]
    | q + 1, hq => simpa [doneAt] using h3 q (by omega)
theorem all_done {ds : List Bool} (h : ds.count true = ds.length) (i : Nat) (hi : i < ds.length) : doneAt ds i = true := by
  have : ∀ b ∈ ds, true = b := List.count_eq_length.1 h
  have := this ds[i] (List.getElem_mem hi)
  simp [doneAt, hi, ← this]
theorem mem_elig {ls : List Cmd} {ds : List Bool} {x : Int} (h : x ∈ elig ls ds) : ∃ k : Nat, x = k ∧ k < ls.length ∧ doneAt ds k = false ∧ freeTo ls ds k k = true := by
  unfold elig eligTo at h
  rw [List.mem_map] at h
  obtain ⟨k, hk, rfl⟩ := h
  rw [List.mem_filter] at hk
  obtain ⟨h1, h2⟩ := hk
  refine ⟨k, rfl, by simpa using h1, ?_, ?_⟩
  · simp [eligOk] at h2
    exact h2.1
  · simp only [eligOk, Bool.and_eq_true] at h2
    exact h2.2
theorem elig_mem {ls : List Cmd} {ds : List Bool} {k : Nat} (hk : k < ls.length) (h0 : doneAt ds k = false) (h1 : freeTo ls ds k k = true) : (k : Int) ∈ elig ls ds := by
  unfold elig eligTo
  rw [List.mem_map]
  refine ⟨k, ?_, rfl⟩
  rw [List.mem_filter]
  exact ⟨by simpa using hk, eligOk_free h0 h1⟩
theorem Runs.some {ls : List Cmd} {o : List Int} {ds : List Bool} (h : Runs ls o ds) (hl : o.length < ls.length) : 0 < (elig ls ds).length := by
  obtain ⟨i, h1, h2, h3⟩ := exists_undone ds (by rw [h.cnt, h.len]; exact hl)
  have : (i : Int) ∈ elig ls ds := elig_mem (by rw [← h.len]; exact h1) h2 (freeTo_iff.2 fun q hq _ => h3 q hq)
  exact List.length_pos_of_mem this
theorem Runs.none {ls : List Cmd} {o : List Int} {ds : List Bool} (h : Runs ls o ds) (hl : o.length = ls.length) : elig ls ds = [] := by
  cases he : elig ls ds with
  | nil => rfl
  | cons x xs =>
    have hx : x ∈ elig ls ds := by rw [he]; simp
    obtain ⟨k, rfl, hk, h0, _⟩ := mem_elig hx
    rw [all_done (by rw [h.cnt, h.len, hl]) k (by rw [h.len]; exact hk)] at h0
    cases h0
theorem Runs.le {ls : List Cmd} {o : List Int} {ds : List Bool} (h : Runs ls o ds) : o.length ≤ ls.length := by
  rw [← h.cnt, ← h.len]; exact count_le_len ds

/-! ### Fences -/
theorem bef_fence {ls : List Cmd} {q k : Nat} {a b : Cmd} (ha : ls[q]? = some a) (hb : ls[k]? = some b) (h : fenceB a = true ∨ fenceB b = true) : befAt ls q k = true := by
  rw [befAt_some ha hb, beforeB]
  rcases h with h | h <;> simp [h]
/-- What is done before a fence and behind it. -/
def FenceOk (ls : List Cmd) (ds : List Bool) : Prop := ∀ f c, ls[f]? = some c → fenceB c = true → (doneAt ds f = true → ∀ q, q < f → doneAt ds q = true) ∧ (doneAt ds f = false → ∀ q, f < q → doneAt ds q = false)
theorem FenceOk.start (ls : List Cmd) : FenceOk ls (List.replicate ls.length false) := fun f c _ _ =>
  ⟨fun h => (by rw [doneAt_replicate] at h; cases h), fun _ q _ => doneAt_replicate _ q⟩
theorem FenceOk.step {ls : List Cmd} {ds : List Bool} (hl : ds.length = ls.length) (h : FenceOk ls ds) {k : Nat} (hk : k < ls.length) (h0 : doneAt ds k = false) (hf : freeTo ls ds k k = true) : FenceOk ls (ds.set k true) := by
  intro f c hc hfc
  have hs : ∀ q, doneAt (ds.set k true) q = if q = k then true else doneAt ds q := fun q => doneAt_set ds k q (by omega)
  obtain ⟨h1, h2⟩ := h f c hc hfc
  obtain ⟨d, hd⟩ : ∃ d, ls[k]? = some d := ⟨_, List.getElem?_eq_getElem hk⟩
  constructor
  · intro hdone q hq
    rw [hs]
    split
    · rfl
    · rw [hs] at hdone
      by_cases hfk : f = k
      · subst hfk
        obtain ⟨e, he⟩ : ∃ e, ls[q]? = some e := ⟨_, List.getElem?_eq_getElem (by omega)⟩
        exact freeTo_iff.1 hf q hq (bef_fence he hc (Or.inr hfc))
      · rw [if_neg hfk] at hdone
        exact h1 hdone q hq
  · intro hnot q hq
    rw [hs] at hnot
    have hfk : f ≠ k := fun e => by rw [if_pos e] at hnot; cases hnot
    rw [if_neg hfk] at hnot
    rw [hs]
    by_cases hqk : q = k
    · subst hqk
      have := freeTo_iff.1 hf f hq (bef_fence hc hd (Or.inl hfc))
      rw [hnot] at this; cases this
    · rw [if_neg hqk]; exact h2 hnot q hq
/-- How many are done, where those below m are done and no others. -/
theorem count_upto : ∀ (ds : List Bool) (m : Nat), m ≤ ds.length → (∀ q, q < m → doneAt ds q = true) → m ≤ ds.count true
  | ds, 0, _, _ => Nat.zero_le _
  | [], m + 1, h, _ => by simp at h
  | b :: ds, m + 1, h, hd => by
    have h0 : b = true := by have := hd 0 (by omega); simpa [doneAt] using this
    subst h0
    have := count_upto ds m (by simpa using h) (fun q hq => by have := hd (q + 1) (by omega); simpa [doneAt] using this)
    simp only [List.count_cons_self]
    omega
theorem count_below : ∀ (ds : List Bool) (m : Nat), (∀ q, m ≤ q → doneAt ds q = false) → ds.count true ≤ m ∧ (ds.count true = m → m ≤ ds.length → ∀ q, q < m → doneAt ds q = true)
  | [], m, _ => ⟨by simp, fun h _ q hq => by simp at h; omega⟩
  | b :: ds, 0, hd => by
    have h0 : b = false := by have := hd 0 (by omega); simpa [doneAt] using this
    subst h0
    obtain ⟨h1, _⟩ := count_below ds 0 (fun q _ => by have := hd (q + 1) (by omega); simpa [doneAt] using this)
    refine ⟨by simpa using h1, fun _ _ q hq => by omega⟩
  | b :: ds, m + 1, hd => by
    obtain ⟨h1, h2⟩ := count_below ds m (fun q hq => by have := hd (q + 1) (by omega); simpa [doneAt] using this)
    cases b with
    | true =>
      refine ⟨by simp only [List.count_cons_self]; omega, fun h hl q hq => ?_⟩
      match q, hq with
      | 0, _ => simp [doneAt]
      | q + 1, hq =>
        have := h2 (by simpa using h) (by simpa using hl) q (by omega)
        simpa [doneAt] using this
    | false =>
      refine ⟨by simp; omega, fun h _ q hq => ?_⟩
      simp at h
      omega
theorem fence_place {ls : List Cmd} {o : List Int} {ds : List Bool} (h : Runs ls o ds) (hF : FenceOk ls ds) {k : Nat} {a b : Cmd} (hk : ls[k]? = some a) (hi : ls[o.length]? = some b) (h0 : doneAt ds k = false) (hf : freeTo ls ds k k = true) :
    fenceB a = fenceB b ∧ (fenceB b = true → k = o.length) := by
  have hkl : k < ls.length := (List.getElem?_eq_some_iff.1 hk).1
  have hil : o.length < ls.length := (List.getElem?_eq_some_iff.1 hi).1
  have hlen := h.len
  have main : ∀ f c, ls[f]? = some c → fenceB c = true → f = k ∨ f = o.length → k = o.length := by
    intro f c hc hfc hor
    have hfl : f < ls.length := (List.getElem?_eq_some_iff.1 hc).1
    obtain ⟨g1, g2⟩ := hF f c hc hfc
    have hfn : doneAt ds f = false := by
      cases hx : doneAt ds f with
      | false => rfl
      | true =>
        rcases hor with rfl | rfl
        · rw [hx] at h0; cases h0
        · have := count_upto ds (o.length + 1) (by omega) (fun q hq => by
            rcases Nat.lt_or_ge q o.length with h | h
            · exact g1 hx q h
            · have : q = o.length := by omega
              rw [this]; exact hx)
          have := h.cnt
          omega
    obtain ⟨c1, c2⟩ := count_below ds f (fun q hq => by
      rcases Nat.lt_or_ge f q with h | h
      · exact g2 hfn q h
      · have : q = f := by omega
        rw [this]; exact hfn)
    rcases hor with rfl | rfl
    · -- the fence is the one that is chosen: all before it are done
      have hall : ∀ q, q < f → doneAt ds q = true := fun q hq => by
        obtain ⟨e, he⟩ : ∃ e, ls[q]? = some e := ⟨_, List.getElem?_eq_getElem (by omega)⟩
        exact freeTo_iff.1 hf q hq (bef_fence he hc (Or.inr hfc))
      have := count_upto ds f (by omega) hall
      have := h.cnt
      omega
    · have hall := c2 h.cnt (by omega)
      rcases Nat.lt_trichotomy k o.length with hlt | he | hgt
      · have := hall k hlt
        rw [h0] at this; cases this
      · exact he
      · have := freeTo_iff.1 hf o.length hgt (bef_fence hc hk (Or.inl hfc))
        rw [hfn] at this; cases this
  cases ha : fenceB a with
  | true =>
    have e := main k a hk ha (Or.inl rfl)
    subst e
    have : a = b := Option.some.inj (hk.symm.trans hi)
    subst this
    exact ⟨ha.symm, fun _ => rfl⟩
  | false =>
    cases hb : fenceB b with
    | false => exact ⟨rfl, fun h => by cases h⟩
    | true =>
      have e := main o.length b hi hb (Or.inr rfl)
      subst e
      have : a = b := Option.some.inj (hk.symm.trans hi)
      subst this
      rw [ha] at hb; cases hb
end Go.Proofs.YtfbafjlhdbjgoaaDoor
