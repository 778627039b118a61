/- The plain laws of Cancel and of liveness. -/
import Derived.Test.YtfbafjlhdbjgoaaDoorR9
namespace Go.Proofs.YtfbafjlhdbjgoaaDoor
set_option linter.unusedVariables false
set_option linter.unusedSimpArgs false
open Go.RowKit Go.Sort
set_option maxRecDepth 100000

theorem mem_eligTags {its : List QItem} {u : Int} : u ∈ eligTags its ↔ ∃ L x R, its = L ++ x :: R ∧ x.1.tag = u ∧ x.2 = false ∧ (L.any fun y => beforeB y.1 x.1) = false := by
  unfold eligTags
  rw [mem_filtTo]
  constructor
  · rintro ⟨i, hi, hp, he⟩
    obtain ⟨x, hx⟩ : ∃ x, its[i]? = some x := ⟨_, List.getElem?_eq_getElem hi⟩
    rw [getD_of (tagsOf_at hx)] at he
    rw [eligI_some hx] at hp
    unfold eligIt at hp
    simp only [Bool.and_eq_true, Bool.not_eq_true'] at hp
    exact ⟨its.take i, x, its.drop (i + 1), split_at hx, he, hp.1, hp.2⟩
  · rintro ⟨L, x, R, rfl, he, h2, hL⟩
    have hx : (L ++ x :: R)[L.length]? = some x := by simp
    refine ⟨L.length, by simp, ?_, by rw [getD_of (tagsOf_at hx)]; exact he⟩
    rw [eligI_some hx]
    unfold eligIt
    simp [h2, hL]
theorem elig_removed {its : List QItem} {t u : Int} (h : u ∈ eligTags its) (hne : u ≠ t) : u ∈ eligTags (removed its t) := by
  obtain ⟨L, x, R, rfl, he, h2, hL⟩ := mem_eligTags.1 h
  refine mem_eligTags.2 ⟨removed L t, x, removed R t, ?_, he, h2, ?_⟩
  · unfold removed
    rw [List.filter_append, List.filter_cons]
    have : (x.1.tag != t) = true := by simp; rw [he]; exact hne
    rw [if_pos this]
  · rw [List.any_eq_false] at hL ⊢
    intro y hy
    exact hL y (mem_removed hy)
theorem started_removed {its : List QItem} {t : Int} (h : stB its t = false) : startedOf (removed its t) = startedOf its := by
  unfold startedOf removed
  rw [List.filter_filter]
  congr 1
  refine List.filter_congr fun x hx => ?_
  cases h2 : x.2 with
  | false => rfl
  | true =>
    have : x.1.tag ≠ t := fun e => by
      unfold stB at h
      rw [List.any_eq_false] at h
      have := h x hx
      simp [h2, e] at this
    simp [this]
theorem removed_len {its : List QItem} {t : Int} (h : (tagsOf its).Nodup) (ht : t ∈ tagsOf its) : (removed its t).length + 1 = its.length := by
  unfold tagsOf at ht
  rw [List.mem_map] at ht
  obtain ⟨x, hx, rfl⟩ := ht
  obtain ⟨k, hk⟩ := List.mem_iff_getElem?.1 hx
  obtain ⟨hA, hB⟩ := split_tag h hk
  have e := removed_split (x := x) hA hB
  rw [← split_at hk] at e
  have hl := congrArg List.length (split_at hk)
  rw [e]
  simp only [List.length_append, List.length_cons] at *
  omega
theorem live_any {its : List QItem} (h : 0 < its.length) (hs : startedOf its = []) : eligTags its ≠ [] := by
  match its, h with
  | x :: R, _ =>
    intro he
    cases h2 : x.2 with
    | true =>
      have : x.1.tag ∈ startedOf (x :: R) := List.mem_map.2 ⟨x, List.mem_filter.2 ⟨List.mem_cons_self, h2⟩, rfl⟩
      rw [hs] at this
      cases this
    | false =>
      have : x.1.tag ∈ eligTags (x :: R) := mem_eligTags.2 ⟨[], x, R, rfl, rfl, h2, rfl⟩
      rw [he] at this
      cases this

/-- A started command has none ahead that must go first. -/
def Inv (its : List QItem) : Prop := its.Pairwise fun x y => y.2 = true → beforeB x.1 y.1 = false
theorem Inv.step {its its' : List QItem} (h : Inv its) (hn : (tagsOf its).Nodup) (s : Step its its') : Inv its' := by
  cases s with
  | same => exact h
  | push c da dc =>
    refine List.pairwise_append.2 ⟨h, List.pairwise_singleton _ _, fun a _ b hb hb2 => ?_⟩
    rw [List.mem_singleton] at hb
    subst hb
    cases hb2
  | drop t b _ => exact List.Pairwise.filter _ h
  | start t h0 =>
    have ht : t ∈ eligTags its := by
      unfold startE at h0
      split at h0
      · cases h0
      · split at h0
        · cases h0
        · rename_i hh; exact Classical.not_not.1 hh
    obtain ⟨L, z, R, e, he, h2, hL⟩ := mem_eligTags.1 ht
    have hz : its[L.length]? = some z := by rw [e]; simp
    have hpre : its.take L.length = L := by rw [e]; simp
    unfold Inv setSt
    rw [List.pairwise_map]
    unfold Inv at h
    rw [List.pairwise_iff_getElem] at h ⊢
    intro i j hi hj hij hy
    have key : ∀ q : QItem, (if q.1.tag = t then (q.1, true) else q).1 = q.1 := fun q => by split <;> rfl
    rw [key, key]
    by_cases hjt : its[j].1.tag = t
    · have hjk := nodup_idx hn (List.getElem?_eq_getElem hj) hz (by rw [hjt, he])
      subst hjk
      have hzj : its[L.length] = z := Option.some.inj ((List.getElem?_eq_getElem hj).symm.trans hz)
      rw [hzj]
      rw [List.any_eq_false] at hL
      have hm : its[i] ∈ L := by
        rw [← hpre]
        exact List.mem_of_getElem? (i := i) (by rw [List.getElem?_take, if_pos (by omega), List.getElem?_eq_getElem hi])
      have := hL _ hm
      simpa using this
    · rw [if_neg hjt] at hy
      exact h i j hi hj hij hy
theorem Inv.pairs {its : List QItem} (h : Inv its) {i k : Nat} {x y : QItem} (hk : k < i) (hx : (its.filter (·.2))[k]? = some x) (hy : (its.filter (·.2))[i]? = some y) : beforeB x.1 y.1 = false := by
  have h1 : (its.filter (·.2)).Pairwise fun x y => y.2 = true → beforeB x.1 y.1 = false := List.Pairwise.filter _ h
  rw [List.pairwise_iff_getElem] at h1
  obtain ⟨hkl, e1⟩ := List.getElem?_eq_some_iff.1 hx
  obtain ⟨hil, e2⟩ := List.getElem?_eq_some_iff.1 hy
  have := h1 k i hkl hil hk
  rw [e1, e2] at this
  exact this (by have := List.mem_of_getElem? hy; exact (List.mem_filter.1 this).2)
end Go.Proofs.YtfbafjlhdbjgoaaDoor
