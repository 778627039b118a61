/- The plain law of Respects: both texts answer alike. -/
import Derived.Test.YtfbafjlhdbjgoaaDoorB6
namespace Go.Proofs.YtfbafjlhdbjgoaaDoor
set_option linter.unusedVariables false
set_option linter.unusedSimpArgs false
open Go.RowKit Go.Sort

theorem getD_set (pl : List Int) (i k : Nat) (v : Int) (hi : i < pl.length) : (pl.set i v).getD k 0 = if k = i then v else pl.getD k 0 := by
  by_cases h : k = i
  · subst h; simp [hi]
  · simp [List.getElem?_set_ne (Ne.symm h), h]
theorem doneAt_set (ds : List Bool) (i k : Nat) (hi : i < ds.length) : doneAt (ds.set i true) k = if k = i then true else doneAt ds k := by
  by_cases h : k = i
  · subst h; simp [doneAt, hi]
  · simp [doneAt, List.getElem?_set_ne (Ne.symm h), h]
theorem count_set : ∀ (pl : List Int) (i : Nat) (v : Int), i < pl.length → pl.getD i 0 = 0 → v ≠ 0 → (pl.set i v).count 0 + 1 = pl.count 0
  | [], i, v, hi, _, _ => by simp at hi
  | x :: pl, 0, v, _, h, hv => by
    have hx : x = 0 := by simpa using h
    subst hx
    simp [List.count_cons, hv]
  | x :: pl, i + 1, v, hi, h, hv => by
    have := count_set pl i v (by simpa using hi) (by simpa using h) hv
    simp only [List.set_cons_succ, List.count_cons]
    omega

structure PlEnd (n p : Nat) (os : List Int) (pl pl' : List Int) : Prop where
  len : pl'.length = n
  old : ∀ i, pl.getD i 0 ≠ 0 → pl'.getD i 0 = pl.getD i 0
  new : ∀ i, pl.getD i 0 = 0 → pl'.getD i 0 = 0 ∨ (p : Int) < pl'.getD i 0
  cnt : pl'.count 0 + os.length = pl.count 0
  inj : (∀ i j, pl.getD i 0 ≠ 0 → pl.getD j 0 ≠ 0 → pl.getD i 0 = pl.getD j 0 → i = j) → ∀ i j, pl'.getD i 0 ≠ 0 → pl'.getD j 0 ≠ 0 → pl'.getD i 0 = pl'.getD j 0 → i = j

theorem pl_cons {n : Nat} {x : Int} {os : List Int} {p : Nat} {pl pl' : List Int} (h : plGo n (x :: os) p pl = some pl') : ∃ i : Nat, x = i ∧ i < n ∧ pl.getD i 0 = 0 ∧ plGo n os (p + 1) (pl.set i ((p : Int) + 1)) = some pl' := by
  rw [plGo] at h
  split at h
  · rename_i hc
    obtain ⟨i, rfl⟩ := Int.eq_ofNat_of_zero_le hc.1.1
    exact ⟨i, rfl, by omega, by simpa using hc.2, by simpa using h⟩
  · cases h

theorem pl_end {n : Nat} : ∀ {os : List Int} {p : Nat} {pl pl' : List Int}, pl.length = n → (∀ i, pl.getD i 0 ≤ p) → plGo n os p pl = some pl' → PlEnd n p os pl pl'
  | [], p, pl, pl', hl, hp, h => by
    simp only [plGo, Option.some.injEq] at h
    subst h
    exact ⟨hl, fun _ _ => rfl, fun _ h => Or.inl h, by simp, fun h => h⟩
  | x :: os, p, pl, pl', hl, hp, h => by
    obtain ⟨i, rfl, hi, h0, h1⟩ := pl_cons h
    have hg : ∀ k, (pl.set i ((p : Int) + 1)).getD k 0 = if k = i then (p : Int) + 1 else pl.getD k 0 := fun k => getD_set pl i k _ (by omega)
    obtain ⟨e1, e2, e3, e4, e5⟩ := pl_end (pl := pl.set i ((p : Int) + 1)) (by simpa using hl) (fun k => by rw [hg]; have := hp k; split <;> omega) h1
    have hc := count_set pl i ((p : Int) + 1) (by omega) h0 (by omega)
    have hi' : pl'.getD i 0 = (p : Int) + 1 := by have := e2 i; rw [hg, if_pos rfl] at this; exact this (by omega)
    refine ⟨e1, fun k hk => ?_, fun k hk => ?_, ?_, fun hinj => ?_⟩
    · have hki : k ≠ i := fun e => hk (e ▸ h0)
      have := e2 k
      rw [hg, if_neg hki] at this
      exact this hk
    · by_cases hki : k = i
      · subst hki; exact Or.inr (by omega)
      · have := e3 k
        rw [hg, if_neg hki] at this
        rcases this hk with h | h
        · exact Or.inl h
        · exact Or.inr (by omega)
    · simp only [List.length_cons]; omega
    · refine e5 fun a b ha hb hab => ?_
      rw [hg] at ha hb hab
      rw [hg] at hab
      have pa := hp a
      have pb := hp b
      by_cases h1 : a = i <;> by_cases h2 : b = i
      · omega
      · rw [if_pos h1, if_neg h2] at hab; omega
      · rw [if_neg h1, if_pos h2] at hab; omega
      · rw [if_neg h1, if_neg h2] at hab
        rw [if_neg h1] at ha
        rw [if_neg h2] at hb
        exact hinj a b ha hb hab

theorem freeTo_iff {ls : List Cmd} {ds : List Bool} {k m : Nat} : freeTo ls ds k m = true ↔ ∀ q, q < m → befAt ls q k = true → doneAt ds q = true := by
  unfold freeTo
  rw [List.all_eq_true]
  constructor
  · intro h q hq hb
    have := h q (by simpa using hq)
    simpa [hb] using this
  · intro h q hq
    cases hb : befAt ls q k with
    | false => simp
    | true => simp [h q (by simpa using hq) hb]

theorem resp_none {ls : List Cmd} : ∀ {os : List Int} {p : Nat} {pl : List Int} {ds : List Bool}, pl.length = ls.length → ds.length = ls.length → (∀ i, doneAt ds i = true ↔ pl.getD i 0 ≠ 0) → plGo ls.length os p pl = none → respGo ls os ds = false
  | [], p, pl, ds, _, _, _, h => by simp [plGo] at h
  | x :: os, p, pl, ds, hl, hd, hm, h => by
    rw [plGo] at h
    split at h
    · rename_i hc
      obtain ⟨i, rfl⟩ := Int.eq_ofNat_of_zero_le hc.1.1
      have hi : i < ls.length := by omega
      have h0 : pl.getD i 0 = 0 := by simpa using hc.2
      have h1 := resp_none (pl := pl.set i ((p : Int) + 1)) (ds := ds.set i true) (by simpa using hl) (by simpa using hd) (fun k => by
        rw [getD_set pl i k _ (by omega), doneAt_set ds i k (by omega)]
        split
        · simp; omega
        · exact hm k) (by simpa using h)
      simp [respGo, h1]
    · rename_i hc
      simp only [respGo]
      by_cases hx : 0 ≤ x ∧ x < ls.length
      · have hne : pl.getD x.toNat 0 ≠ 0 := fun e => hc ⟨hx, e⟩
        rw [(hm x.toNat).2 hne]
        simp
      · simp [hx]

theorem resp_iff {ls : List Cmd} : ∀ {os : List Int} {p : Nat} {pl pl' : List Int} {ds : List Bool}, pl.length = ls.length → ds.length = ls.length → (∀ i, pl.getD i 0 ≤ p) → (∀ i, doneAt ds i = true ↔ pl.getD i 0 ≠ 0) → plGo ls.length os p pl = some pl' →
    (respGo ls os ds = true ↔ ∀ k, pl.getD k 0 = 0 → pl'.getD k 0 ≠ 0 → ∀ q, q < k → befAt ls q k = true → pl'.getD q 0 ≠ 0 ∧ pl'.getD q 0 < pl'.getD k 0)
  | [], p, pl, pl', ds, hl, hd, hp, hm, h => by
    simp only [plGo, Option.some.injEq] at h
    subst h
    exact ⟨fun _ k h0 h1 => absurd h0 h1, fun _ => rfl⟩
  | x :: os, p, pl, pl', ds, hl, hd, hp, hm, h => by
    obtain ⟨i, rfl, hi, h0, h1⟩ := pl_cons h
    have hg : ∀ k, (pl.set i ((p : Int) + 1)).getD k 0 = if k = i then (p : Int) + 1 else pl.getD k 0 := fun k => getD_set pl i k _ (by omega)
    have hp1 : ∀ k, (pl.set i ((p : Int) + 1)).getD k 0 ≤ ((p + 1 : Nat) : Int) := fun k => by rw [hg]; have := hp k; split <;> omega
    obtain ⟨e1, e2, e3, e4, e5⟩ := pl_end (pl := pl.set i ((p : Int) + 1)) (by simpa using hl) hp1 h1
    have hi' : pl'.getD i 0 = (p : Int) + 1 := by have := e2 i; rw [hg, if_pos rfl] at this; exact this (by omega)
    have IH := resp_iff (pl := pl.set i ((p : Int) + 1)) (ds := ds.set i true) (by simpa using hl) (by simpa using hd) hp1 (fun k => by
        rw [hg, doneAt_set ds i k (by omega)]
        split
        · simp; omega
        · exact hm k) h1
    have hdi : doneAt ds i = false := by
      cases hx : doneAt ds i with
      | false => rfl
      | true => exact absurd h0 ((hm i).1 hx)
    have hstep : respGo ls ((i : Int) :: os) ds = (freeTo ls ds i i && respGo ls os (ds.set i true)) := by
      have : (0 : Int) ≤ (i : Int) ∧ (i : Int) < ls.length := ⟨by omega, by omega⟩
      simp only [respGo, this, decide_true, Int.toNat_natCast, hdi, Bool.not_false, Bool.true_and, and_self]
    rw [hstep, Bool.and_eq_true, freeTo_iff, IH]
    have far : ∀ q, q ≠ i → pl.getD q 0 = 0 → pl'.getD q 0 = 0 ∨ (p : Int) + 1 < pl'.getD q 0 := fun q hq hz => by
      have := e3 q
      rw [hg, if_neg hq] at this
      rcases this hz with h | h
      · exact Or.inl h
      · exact Or.inr (by omega)
    have near : ∀ q, q ≠ i → pl.getD q 0 ≠ 0 → pl'.getD q 0 = pl.getD q 0 := fun q hq hz => by
      have := e2 q
      rw [hg, if_neg hq] at this
      exact this hz
    constructor
    · rintro ⟨hF, hR⟩ k hk hk' q hq hb
      by_cases hki : k = i
      · subst hki
        have hqd := (hm q).1 (hF q hq hb)
        have hn := near q (by omega) hqd
        have := hp q
        rw [hi', hn]
        exact ⟨hqd, by omega⟩
      · exact hR k (by rw [hg, if_neg hki]; exact hk) hk' q hq hb
    · intro hA
      refine ⟨fun q hq hb => ?_, fun k hk hk' q hq hb => ?_⟩
      · have := hA i h0 (by omega) q hq hb
        refine (hm q).2 fun hz => ?_
        rcases far q (by omega) hz with h | h <;> omega
      · have hki : k ≠ i := fun e => by subst e; rw [hg, if_pos rfl] at hk; omega
        exact hA k (by rw [hg, if_neg hki] at hk; exact hk) hk' q hq hb

theorem getD_replicate (n i : Nat) : (List.replicate n (0 : Int)).getD i 0 = 0 := by
  simp [List.getElem?_replicate]
  split <;> rfl
theorem doneAt_replicate (n i : Nat) : doneAt (List.replicate n false) i = false := by
  unfold doneAt
  simp [List.getElem?_replicate]
  split <;> rfl

theorem plTo_iff {ls : List Cmd} {pl : List Int} {n : Nat} : plTo ls pl n = true ↔ ∀ k, k < n → ∀ q, q < k → befAt ls q k = true → ¬ pl.getD k 0 < pl.getD q 0 := by
  unfold plTo
  rw [List.all_eq_true]
  constructor
  · intro h k hk q hq hb hlt
    have h1 := h k (by simpa using hk)
    unfold rowTo at h1
    rw [List.all_eq_true] at h1
    have h2 := h1 q (by simpa using hq)
    rw [pairOk, hb] at h2
    simp at h2
    simp at hlt
    omega
  · intro h k hk
    unfold rowTo
    rw [List.all_eq_true]
    intro q hq
    have h3 := h k (by simpa using hk) q (by simpa using hq)
    cases hb : befAt ls q k with
    | false => simp [pairOk, hb]
    | true =>
      have := h3 hb
      simp [pairOk, hb]
      simpa using this

theorem resp_eq (ls : List Cmd) (os : List Int) : respB ls os = refRespB ls os := by
  unfold respB refRespB
  by_cases hl : os.length = ls.length
  · rw [decide_eq_true hl, Bool.true_and, Bool.true_and, refRespGo]
    have hm : ∀ i, doneAt (List.replicate ls.length false) i = true ↔ (List.replicate ls.length (0 : Int)).getD i 0 ≠ 0 := fun i => by
      rw [doneAt_replicate, getD_replicate]; simp
    cases hpl : plGo ls.length os 0 (List.replicate ls.length 0) with
    | none => exact resp_none (by simp) (by simp) hm hpl
    | some pl' =>
      have h0 : ∀ i, (List.replicate ls.length (0 : Int)).getD i 0 ≤ ((0 : Nat) : Int) := fun i => by rw [getD_replicate]; simp
      obtain ⟨e1, e2, e3, e4, e5⟩ := pl_end (by simp) h0 hpl
      have hinj := e5 (fun i j hi => absurd (getD_replicate _ _) hi)
      have hcnt : pl'.count 0 = 0 := by
        rw [List.count_replicate_self] at e4
        omega
      have hnz : ∀ k, k < ls.length → pl'.getD k 0 ≠ 0 := fun k hk hz => by
        have hk' : k < pl'.length := by omega
        have hx : pl'[k] = 0 := by simpa [hk'] using hz
        have : (0 : Int) ∈ pl' := hx ▸ List.getElem_mem hk'
        exact absurd (List.count_pos_iff.2 this) (by omega)
      have hR := resp_iff (by simp) (by simp) h0 hm hpl
      show respGo ls os _ = plTo ls pl' ls.length
      rw [Bool.eq_iff_iff, hR, plTo_iff]
      constructor
      · intro h k hk q hq hb hlt
        have := h k (getD_replicate _ _) (hnz k hk) q hq hb
        omega
      · intro h k _ hk' q hq hb
        have hkn : k < ls.length := by
          rcases Nat.lt_or_ge k ls.length with h | h
          · exact h
          · exact absurd (by simp [e1, h]) hk'
        have h1 := h k hkn q hq hb
        have h2 := hnz q (by omega)
        have h3 : pl'.getD q 0 ≠ pl'.getD k 0 := fun e => by have := hinj q k h2 hk' e; omega
        exact ⟨h2, by omega⟩
  · simp [hl]
end Go.Proofs.YtfbafjlhdbjgoaaDoor
