/- Plain: the commands by increasing levels, and within a level backwards. -/
import Derived.Test.YtfbafjlhdbjgoaaDoorB8
namespace Go.Proofs.YtfbafjlhdbjgoaaDoor
set_option linter.unusedVariables false
set_option linter.unusedSimpArgs false
open Go.RowKit Go.Sort

theorem getD_set' (xs : List Int) (i j : Nat) (v : Int) (h : j ≠ i) : (xs.set i v).getD j 0 = xs.getD j 0 := by
  simp [List.getElem?_set_ne (Ne.symm h)]
theorem lvIn_len (ls : List Cmd) (i : Nat) (xs : List Int) : ∀ m, (lvIn ls i m xs).length = xs.length
  | 0 => rfl
  | m + 1 => by unfold lvIn; split <;> simp [lvIn_len ls i xs m]
theorem lvIn_other (ls : List Cmd) (i : Nat) (xs : List Int) (j : Nat) (h : j ≠ i) : ∀ m, (lvIn ls i m xs).getD j 0 = xs.getD j 0
  | 0 => rfl
  | m + 1 => by
    unfold lvIn
    split
    · rw [getD_set' _ _ _ _ h]; exact lvIn_other ls i xs j h m
    · exact lvIn_other ls i xs j h m
theorem lvIn_gt (ls : List Cmd) (i : Nat) (xs : List Int) (hi : i < xs.length) : ∀ m, m ≤ i → ∀ q, q < m → befAt ls q i = true → xs.getD q 0 < (lvIn ls i m xs).getD i 0
  | 0, _, q, hq, _ => by omega
  | m + 1, hm, q, hq, hb => by
    have hl : i < (lvIn ls i m xs).length := by rw [lvIn_len]; exact hi
    have hother := lvIn_other ls i xs m (by omega) m
    unfold lvIn
    by_cases hqm : q = m
    · subst hqm
      rw [if_pos hb, getD_set _ _ _ _ hl, if_pos rfl, hother]
      omega
    · have ih := lvIn_gt ls i xs hi m (by omega) q (by omega) hb
      split
      · rw [getD_set _ _ _ _ hl, if_pos rfl]
        omega
      · exact ih
theorem lvTo_keep (ls : List Cmd) (j k : Nat) (h : j < k) : ∀ d, (lvTo ls (k + d)).getD j 0 = (lvTo ls k).getD j 0
  | 0 => rfl
  | d + 1 => by
    show (lvIn ls (k + d) (k + d) (lvTo ls (k + d))).getD j 0 = _
    rw [lvIn_other _ _ _ _ (by omega), lvTo_keep ls j k h d]
/-- The level at a place. -/
def lvAt (ls : List Cmd) (j : Nat) : Int := (levels ls).getD j 0
theorem lvAt_lt {ls : List Cmd} {q k : Nat} (hk : k < ls.length) (hq : q < k) (hb : befAt ls q k = true) : lvAt ls q < lvAt ls k := by
  have e1 : lvAt ls q = (lvTo ls k).getD q 0 := by
    have := lvTo_keep ls q k hq (ls.length - k)
    rw [show k + (ls.length - k) = ls.length by omega] at this
    exact this
  have e2 : lvAt ls k = (lvTo ls (k + 1)).getD k 0 := by
    have := lvTo_keep ls k (k + 1) (by omega) (ls.length - (k + 1))
    rw [show k + 1 + (ls.length - (k + 1)) = ls.length by omega] at this
    exact this
  rw [e1, e2]
  exact lvIn_gt ls k (lvTo ls k) (by rw [(lvTo_ok ls k).1]; exact hk) k (Nat.le_refl _) q hq hb
theorem lvAt_range {ls : List Cmd} {k : Nat} (hk : k < ls.length) : 0 ≤ lvAt ls k ∧ lvAt ls k ≤ k := by
  have hl := (lvTo_ok ls ls.length).1
  have hk' : k < (levels ls).length := by unfold levels; omega
  have := (lvTo_ok ls ls.length).2 k _ (List.getElem?_eq_getElem hk')
  have e : lvAt ls k = (levels ls)[k] := by simp [lvAt, hk']
  rw [e]
  exact this

/-- What is done when level n is carried out from the end down to place i. -/
def dsOf (ls : List Cmd) (n i : Nat) : List Bool := (List.range ls.length).map fun j => decide (lvAt ls j < n ∨ (lvAt ls j = n ∧ i ≤ j))
theorem dsOf_len (ls : List Cmd) (n i : Nat) : (dsOf ls n i).length = ls.length := by simp [dsOf]
theorem dsOf_at (ls : List Cmd) (n i j : Nat) (hj : j < ls.length) : doneAt (dsOf ls n i) j = decide (lvAt ls j < n ∨ (lvAt ls j = n ∧ i ≤ j)) := by
  simp [doneAt, dsOf, hj]
theorem doneAt_ext {ds ds' : List Bool} (hl : ds.length = ds'.length) (h : ∀ j, j < ds.length → doneAt ds j = doneAt ds' j) : ds = ds' := by
  apply List.ext_getElem hl
  intro j h1 h2
  have := h j h1
  simpa [doneAt, h1, h2] using this
theorem dsOf_start (ls : List Cmd) : dsOf ls 0 ls.length = List.replicate ls.length false := by
  apply doneAt_ext (by simp [dsOf])
  intro j hj
  have hj' : j < ls.length := by simpa [dsOf] using hj
  rw [dsOf_at ls 0 _ j hj', doneAt_replicate]
  have := lvAt_range hj'
  simp; omega
theorem dsOf_next (ls : List Cmd) (n : Nat) : dsOf ls n 0 = dsOf ls (n + 1) ls.length := by
  apply doneAt_ext (by simp [dsOf])
  intro j hj
  have hj' : j < ls.length := by simpa [dsOf] using hj
  rw [dsOf_at ls _ _ j hj', dsOf_at ls _ _ j hj']
  apply decide_eq_decide.2
  omega
theorem dsOf_skip (ls : List Cmd) (n j : Nat) (h : lvAt ls j ≠ n) : dsOf ls n (j + 1) = dsOf ls n j := by
  apply doneAt_ext (by simp [dsOf])
  intro q hq
  have hq' : q < ls.length := by simpa [dsOf] using hq
  rw [dsOf_at ls _ _ q hq', dsOf_at ls _ _ q hq']
  apply decide_eq_decide.2
  by_cases e : q = j
  · subst e; omega
  · omega
theorem dsOf_take (ls : List Cmd) (n j : Nat) (hj : j < ls.length) (h : lvAt ls j = n) : (dsOf ls n (j + 1)).set j true = dsOf ls n j := by
  apply doneAt_ext (by simp [dsOf])
  intro q hq
  have hq' : q < ls.length := by simpa [dsOf] using hq
  rw [doneAt_set _ _ _ (by rw [dsOf_len]; exact hj), dsOf_at ls _ _ q hq', dsOf_at ls _ _ q hq']
  by_cases e : q = j
  · subst e
    rw [if_pos rfl]
    symm
    simp [h]
  · rw [if_neg e]
    apply decide_eq_decide.2
    omega
theorem dsOf_free (ls : List Cmd) (n j : Nat) (hj : j < ls.length) (h : lvAt ls j = n) : doneAt (dsOf ls n (j + 1)) j = false ∧ freeTo ls (dsOf ls n (j + 1)) j j = true := by
  constructor
  · rw [dsOf_at ls _ _ j hj]
    simp; omega
  · rw [freeTo_iff]
    intro q hq hb
    have := lvAt_lt hj hq hb
    rw [dsOf_at ls _ _ q (by omega)]
    simp; omega
theorem Runs.levels {ls : List Cmd} {o : List Int} (h : Runs ls o (dsOf ls ls.length ls.length)) : respB ls o = true := by
  refine h.full ?_
  have hc : (dsOf ls ls.length ls.length).count true = (dsOf ls ls.length ls.length).length := by
   apply List.count_eq_length.2
   intro b hb
   obtain ⟨j, hj, rfl⟩ := List.getElem_of_mem hb
   have hj' : j < ls.length := by rw [dsOf_len] at hj; exact hj
   have e := dsOf_at ls ls.length ls.length j hj'
   have : lvAt ls j < (ls.length : Int) := by have := lvAt_range hj'; omega
   have e2 : doneAt (dsOf ls ls.length ls.length) j = (dsOf ls ls.length ls.length)[j] := by simp [doneAt, hj]
   rw [← e2, e]
   simp [this]
  have h1 := h.cnt
  have h2 := h.len
  omega
end Go.Proofs.YtfbafjlhdbjgoaaDoor
