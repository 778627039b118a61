/- Two queues side by side: the frame, what of the items counts; a call on both. -/
import Derived.Test.YtfbafjlhdbjgoaaDoorR8
import Derived.Deep.RegionHeld3
namespace Go.Proofs.YtfbafjlhdbjgoaaDoor
set_option linter.unusedVariables false
set_option linter.unusedSimpArgs false
open Go.RowKit Go.Sort
set_option maxRecDepth 100000

/-- An item but for where its data lie. -/
def nrm (x : QItem) : QItem := (x.1.re none 0, x.2)
def Eqv (its jts : List QItem) : Prop := its.map nrm = jts.map nrm
theorem nrm_tags (its : List QItem) : tagsOf (its.map nrm) = tagsOf its := by simp [tagsOf, List.map_map, Function.comp_def, nrm, Cmd.re]
theorem nrm_has (its : List QItem) (t : Int) : hasTag (its.map nrm) t = hasTag its t := by simp [hasTag, List.any_map, Function.comp_def, nrm, Cmd.re]
theorem nrm_st (its : List QItem) (t : Int) : stB (its.map nrm) t = stB its t := by simp [stB, List.any_map, Function.comp_def, nrm, Cmd.re]
theorem nrm_started (its : List QItem) : startedOf (its.map nrm) = startedOf its := by simp [startedOf, List.filter_map, List.map_map, Function.comp_def, nrm, Cmd.re]
theorem nrm_removed (its : List QItem) (t : Int) : removed (its.map nrm) t = (removed its t).map nrm := by simp [removed, List.filter_map, Function.comp_def, nrm, Cmd.re]
theorem nrm_setSt (its : List QItem) (t : Int) : setSt (its.map nrm) t = (setSt its t).map nrm := by
  unfold setSt
  rw [List.map_map, List.map_map]
  refine List.map_congr_left fun x _ => ?_
  show (if (nrm x).1.tag = t then ((nrm x).1, true) else nrm x) = nrm (if x.1.tag = t then (x.1, true) else x)
  by_cases h : x.1.tag = t
  · have h' : (nrm x).1.tag = t := h
    rw [if_pos h, if_pos h']; rfl
  · have h' : ¬ (nrm x).1.tag = t := h
    rw [if_neg h, if_neg h']
theorem nrm_find (its : List QItem) (t : Int) : (its.map nrm).find? (fun x => x.1.tag == t) = (its.find? fun x => x.1.tag == t).map nrm := by
  rw [List.find?_map]; rfl
theorem bef_nrm (x y : QItem) : beforeB (nrm x).1 (nrm y).1 = beforeB x.1 y.1 := rfl
theorem nrm_elig (its : List QItem) : eligTags (its.map nrm) = eligTags its := by
  have key : ∀ i, eligI (its.map nrm) i = eligI its i := fun i => by
    unfold eligI
    rw [List.getElem?_map]
    cases its[i]? with
    | none => rfl
    | some y =>
      show eligIt (its.map nrm) i (nrm y) = eligIt its i y
      unfold eligIt
      rw [← List.map_take, List.any_map]
      rfl
  unfold eligTags
  rw [nrm_tags, List.length_map]
  unfold filtTo
  simp only [key]
theorem nrm_submit (its : List QItem) (c : Cmd) : submitE (its.map nrm) c = submitE its c := by
  unfold submitE
  rw [nrm_has, List.length_map]
theorem nrm_start (its : List QItem) (t : Int) : startE (its.map nrm) t = startE its t := by
  unfold startE
  rw [nrm_has, nrm_elig]
theorem nrm_remove (its : List QItem) (t : Int) (b : Bool) : removeE (its.map nrm) t b = removeE its t b := by
  unfold removeE
  rw [nrm_has, nrm_st]
section
variable {its jts : List QItem}
theorem Eqv.len (h : Eqv its jts) : its.length = jts.length := by have := congrArg List.length h; simpa using this
theorem Eqv.tags (h : Eqv its jts) : tagsOf its = tagsOf jts := by rw [← nrm_tags its, ← nrm_tags jts, h]
theorem Eqv.started (h : Eqv its jts) : startedOf its = startedOf jts := by rw [← nrm_started its, ← nrm_started jts, h]
theorem Eqv.elig (h : Eqv its jts) : eligTags its = eligTags jts := by rw [← nrm_elig its, ← nrm_elig jts, h]
theorem Eqv.submit (h : Eqv its jts) (c : Cmd) : submitE its c = submitE jts c := by rw [← nrm_submit its, ← nrm_submit jts, h]
theorem Eqv.start (h : Eqv its jts) (t : Int) : startE its t = startE jts t := by rw [← nrm_start its, ← nrm_start jts, h]
theorem Eqv.remove (h : Eqv its jts) (t : Int) (b : Bool) : removeE its t b = removeE jts t b := by rw [← nrm_remove its, ← nrm_remove jts, h]
theorem Eqv.setSt (h : Eqv its jts) (t : Int) : Eqv (setSt its t) (setSt jts t) := by unfold Eqv; rw [← nrm_setSt, ← nrm_setSt, h]
theorem Eqv.removed (h : Eqv its jts) (t : Int) : Eqv (removed its t) (removed jts t) := by unfold Eqv; rw [← nrm_removed, ← nrm_removed, h]
theorem Eqv.push (h : Eqv its jts) (c : Cmd) (a a' : Option Addr) (d d' : Nat) : Eqv (its ++ [(c.re a d, false)]) (jts ++ [(c.re a' d', false)]) := by
  unfold Eqv
  rw [List.map_append, List.map_append, h]
  rfl
theorem Eqv.find (h : Eqv its jts) (t : Int) : (its.find? fun x => x.1.tag == t).map nrm = (jts.find? fun x => x.1.tag == t).map nrm := by rw [← nrm_find, ← nrm_find, h]
end
theorem nrm_eq {x y : QItem} (h : nrm x = nrm y) : y.1 = x.1.re y.1.da y.1.dc := by
  obtain ⟨⟨a0, a1, a2, a3, a4, a5, a6, a7, a8, a9, a10⟩, ab⟩ := x
  obtain ⟨⟨b0, b1, b2, b3, b4, b5, b6, b7, b8, b9, b10⟩, bb⟩ := y
  simp only [nrm, Cmd.re, Prod.mk.injEq, Cmd.mk.injEq] at h
  obtain ⟨⟨rfl, rfl, rfl, rfl, rfl, rfl, rfl, rfl, _, _, rfl⟩, _⟩ := h
  rfl

/-- Both queues, made by the call itself, apart from each other. -/
structure PW (w wc : World) (q m1 m2 n : Nat) (tv : Value) (its : List QItem) (r : Nat) (sv : Value) (jts : List QItem) : Prop where
  a : AW w wc q m1 m2 n tv its
  b : RAt wc r sv jts
  low : ∀ k, RF r sv k → w.heap.size ≤ k
  dis : ∀ k, QF q m1 m2 tv k → ¬ RF r sv k
  dq : ∀ x ∈ its, ∀ b o, 0 < x.1.bs.length → x.1.da = some ⟨b, o, none⟩ → ¬ RF r sv b
  dr : ∀ x ∈ jts, ∀ b o, 0 < x.1.bs.length → x.1.da = some ⟨b, o, none⟩ → ¬ QF q m1 m2 tv b
section
variable {w wc w' : World} {q m1 m2 n n' r : Nat} {tv tv' sv sv' : Value} {its its' jts jts' : List QItem}
theorem PW.grow (h : PW w wc q m1 m2 n tv its r sv jts) (hb : RowKit.Below wc.heap.size wc w') : PW w w' q m1 m2 n tv its r sv jts := ⟨h.a.grow hb, h.b.grow hb, h.low, h.dis, h.dq, h.dr⟩
theorem PW.bel (h : PW w wc q m1 m2 n tv its r sv jts) : RowKit.Below w.heap.size w wc := h.a.bel
theorem PW.stepQ (h : PW w wc q m1 m2 n tv its r sv jts) (ht : Turn (QF q m1 m2 tv) wc w') (hq : QAt w' q m1 m2 n' tv' its') (hF : ∀ k, QF q m1 m2 tv' k → QF q m1 m2 tv k ∨ wc.heap.size ≤ k)
    (hnew : ∀ x ∈ its', (∃ y ∈ its, x.1 = y.1) ∨ ∀ b o, x.1.da = some ⟨b, o, none⟩ → wc.heap.size ≤ b) : PW w w' q m1 m2 n' tv' its' r sv jts := by
  refine ⟨h.a.turn ht hq hF, h.b.keep ht h.dis h.dr, h.low, fun k hk hr => ?_, fun x hx b o hl e hr => ?_, fun x hx b o hl e hk => ?_⟩
  · rcases hF k hk with h1 | h1
    · exact h.dis k h1 hr
    · have := rf_lt h.b hr; omega
  · rcases hnew x hx with ⟨y, hy, e1⟩ | h1
    · rw [e1] at hl e
      exact h.dq y hy b o hl e hr
    · have h2 := h1 b o e
      have := rf_lt h.b hr; omega
  · rcases hF b hk with h1 | h1
    · exact h.dr x hx b o hl e h1
    · have := dat_lt (h.b.ok x hx).1.dat hl e; omega
theorem PW.stepR (h : PW w wc q m1 m2 n tv its r sv jts) (ht : Turn (RF r sv) wc w') (hr : RAt w' r sv' jts') (hF : ∀ k, RF r sv' k → RF r sv k ∨ wc.heap.size ≤ k)
    (hnew : ∀ x ∈ jts', (∃ y ∈ jts, x.1 = y.1) ∨ ∀ b o, x.1.da = some ⟨b, o, none⟩ → wc.heap.size ≤ b) : PW w w' q m1 m2 n tv its r sv' jts' := by
  refine ⟨⟨h.a.qa.keep ht (fun k hk hq => h.dis k hq hk) (fun x hx b o hl e => h.dq x hx b o hl e), h.a.bel.trans (ht.below h.a.bel.size h.low), h.a.low⟩, hr, fun k hk => ?_, fun k hk hr' => ?_, fun x hx b o hl e hr' => ?_, fun x hx b o hl e hk => ?_⟩
  · rcases hF k hk with h1 | h1
    · exact h.low k h1
    · exact Nat.le_trans h.a.bel.size h1
  · rcases hF k hr' with h1 | h1
    · exact h.dis k hk h1
    · have := qf_lt h.a.qa hk; omega
  · rcases hF b hr' with h1 | h1
    · exact h.dq x hx b o hl e h1
    · have := dat_lt (h.a.qa.ok x hx).1.dat hl e; omega
  · rcases hnew x hx with ⟨y, hy, e1⟩ | h1
    · rw [e1] at hl e
      exact h.dr y hy b o hl e hk
    · have h2 := h1 b o e
      have := qf_lt h.a.qa hk; omega
end
theorem mem_setSt {its : List QItem} {t : Int} {x : QItem} (h : x ∈ setSt its t) : ∃ y ∈ its, x.1 = y.1 := by
  unfold setSt at h
  rw [List.mem_map] at h
  obtain ⟨y, hy, rfl⟩ := h
  refine ⟨y, hy, ?_⟩
  split <;> rfl
theorem mem_removed {its : List QItem} {t : Int} {x : QItem} (h : x ∈ removed its t) : x ∈ its := (List.mem_filter.1 h).1

/-- What a call makes of a queue's items. -/
inductive Step (its : List QItem) : List QItem → Prop
  | same : Step its its
  | push (c : Cmd) (da : Option Addr) (dc : Nat) : Step its (its ++ [(c.re da dc, false)])
  | start (t : Int) : startE its t = 0 → Step its (setSt its t)
  | drop (t : Int) (b : Bool) : removeE its t b = 0 → Step its (removed its t)
theorem Step.len {its its' : List QItem} (h : Step its its') : its'.length ≤ its.length + 1 := by
  cases h with
  | same => omega
  | push c da dc => simp
  | start t _ => simp [setSt]
  | drop t b _ => exact Nat.le_succ_of_le (List.length_filter_le _ _)


/-- The state behind a call on both. -/
def St (w w' : World) (q m1 m2 n r : Nat) (its : List QItem) : Prop :=
  ∃ n' tv' its' sv' jts', n' ≤ n + 1 ∧ PW w w' q m1 m2 n' tv' its' r sv' jts' ∧ Eqv its' jts' ∧ Step its its'
/-- The blocks that are either queue's own. -/
def PF (q m1 m2 : Nat) (tv : Value) (r : Nat) (sv : Value) (k : Nat) : Prop := QF q m1 m2 tv k ∨ RF r sv k
theorem Turn.both {w1 w2 w3 : World} {q m1 m2 r : Nat} {tv sv : Value} (h : Turn (QF q m1 m2 tv) w1 w2) (k : Turn (RF r sv) w2 w3) : Turn (PF q m1 m2 tv r sv) w1 w3 :=
  Turn.trans (F := PF q m1 m2 tv r sv) (b := w2) ⟨h.os, h.tape, h.output, h.size, fun i hi hF => h.block i hi (fun hq => hF (Or.inl hq))⟩ k (fun i _ hi => Or.inr hi)
section
variable {w w1 : World} {q m1 m2 n r : Nat} {tv sv : Value} {its jts : List QItem}
theorem do_submit (h1 : PW w w1 q m1 m2 n tv its r sv jts) (he : Eqv its jts) (c : Cmd) (hc : CmdOk w c) (hn : n < 1000000) (hm : its.length ≤ 1000000) :
    Calls Tryd.prog 35 #[.pointer (some ⟨q, 0, none⟩), c.val] w1 fun e w2 => e = .returned (.int .i64 (submitE its c)) ∧ Turn (QF q m1 m2 tv) w1 w2 ∧
      Calls Tryd.prog 55 #[.pointer (some ⟨r, 0, none⟩), c.val] w2 fun e w3 => e = .returned (.int .i64 (submitE its c)) ∧ Turn (RF r sv) w2 w3 ∧ St w w3 q m1 m2 n r its ∧ Turn (PF q m1 m2 tv r sv) w1 w3 := by
  refine (submit_any h1.a.qa c (hc.mono h1.bel) (fun b o hl e hq => by
    have h2 := h1.a.low b hq
    have h3 := dat_lt hc.dat hl e
    omega) hn hm).mono fun e w2 ⟨h2, ht, hz0, hz1⟩ => ⟨h2, ht, ?_⟩
  have hl := he.len
  by_cases hs : submitE its c = 0
  · obtain ⟨da, dc, tv', hq, hF, hfr⟩ := hz1 hs
    have p2 := h1.stepQ ht hq hF (fun x hx => by
      rw [List.mem_append] at hx
      rcases hx with hx | hx
      · exact Or.inl ⟨x, hx, rfl⟩
      · rw [List.mem_singleton] at hx
        subst hx
        exact Or.inr hfr)
    refine (rSubmit_any p2.b c (hc.mono p2.bel) (by omega)).mono fun e w3 ⟨h3, ht3, _, hy1⟩ => ?_
    rw [← he.submit c] at h3 hy1
    obtain ⟨da', dc', sv', hr, hF', hfr'⟩ := hy1 hs
    refine ⟨h3, ht3, ⟨n + 1, tv', _, sv', _, Nat.le_refl _, p2.stepR ht3 hr hF' (fun x hx => ?_), he.push c da da' dc dc', Step.push c da dc⟩, ht.both ht3⟩
    rw [List.mem_append] at hx
    rcases hx with hx | hx
    · exact Or.inl ⟨x, hx, rfl⟩
    · rw [List.mem_singleton] at hx
      subst hx
      exact Or.inr hfr'
  · have p2 := h1.stepQ ht (hz0 hs) (fun k hk => Or.inl hk) (fun x hx => Or.inl ⟨x, hx, rfl⟩)
    refine (rSubmit_any p2.b c (hc.mono p2.bel) (by omega)).mono fun e w3 ⟨h3, ht3, hy0, _⟩ => ?_
    rw [← he.submit c] at h3 hy0
    exact ⟨h3, ht3, ⟨n, tv, _, sv, _, Nat.le_succ _, p2.stepR ht3 (hy0 hs) (fun k hk => Or.inl hk) (fun x hx => Or.inl ⟨x, hx, rfl⟩), he, Step.same⟩, ht.both ht3⟩
theorem do_start (h1 : PW w w1 q m1 m2 n tv its r sv jts) (he : Eqv its jts) (t : Int) (hk : (Lit.int .i64 t).wf = true) (hn : n < 1000000) (hm : its.length ≤ 1000000) :
    Calls Tryd.prog 36 #[.pointer (some ⟨q, 0, none⟩), .int .i64 t] w1 fun e w2 => e = .returned (.int .i64 (startE its t)) ∧
      Calls Tryd.prog 56 #[.pointer (some ⟨r, 0, none⟩), .int .i64 t] w2 fun e w3 => e = .returned (.int .i64 (startE its t)) ∧ St w w3 q m1 m2 n r its ∧ Turn (PF q m1 m2 tv r sv) w1 w3 := by
  refine (start_any h1.a.qa hk hn hm).mono fun e w2 ⟨h2, ht, hz0, hz1⟩ => ⟨h2, ?_⟩
  have hl := he.len
  by_cases hs : startE its t = 0
  · have p2 := h1.stepQ ht (hz1 hs) (fun k hk => Or.inl hk) (fun x hx => Or.inl (mem_setSt hx))
    refine (rStart_any p2.b t (by omega)).mono fun e w3 ⟨h3, ht3, _, hy1⟩ => ?_
    rw [← he.start t] at h3 hy1
    exact ⟨h3, ⟨n + 1, tv, _, sv, _, Nat.le_refl _, p2.stepR ht3 (hy1 hs) (fun k hk => Or.inl hk) (fun x hx => Or.inl (mem_setSt hx)), he.setSt t, Step.start t hs⟩, ht.both ht3⟩
  · have p2 := h1.stepQ ht (hz0 hs) (fun k hk => Or.inl hk) (fun x hx => Or.inl ⟨x, hx, rfl⟩)
    refine (rStart_any p2.b t (by omega)).mono fun e w3 ⟨h3, ht3, hy0, _⟩ => ?_
    rw [← he.start t] at h3 hy0
    exact ⟨h3, ⟨n, tv, _, sv, _, Nat.le_succ _, p2.stepR ht3 (hy0 hs) (fun k hk => Or.inl hk) (fun x hx => Or.inl ⟨x, hx, rfl⟩), he, Step.same⟩, ht.both ht3⟩
theorem do_remove (h1 : PW w w1 q m1 m2 n tv its r sv jts) (he : Eqv its jts) (f : Nat) (b : Bool) (t : Int)
    (C : Calls Tryd.prog f #[.pointer (some ⟨q, 0, none⟩), .int .i64 t] w1 fun e w' => e = .returned (.int .i64 (removeE its t b)) ∧ Turn (QF q m1 m2 tv) w1 w' ∧ (removeE its t b ≠ 0 → QAt w' q m1 m2 n tv its) ∧
      (removeE its t b = 0 → ∃ tv', QAt w' q m1 m2 n tv' (removed its t) ∧ ∀ k, QF q m1 m2 tv' k → QF q m1 m2 tv k ∨ w1.heap.size ≤ k)) (hm : its.length ≤ 1000000) :
    Calls Tryd.prog f #[.pointer (some ⟨q, 0, none⟩), .int .i64 t] w1 fun e w2 => e = .returned (.int .i64 (removeE its t b)) ∧
      Calls Tryd.prog 57 #[.pointer (some ⟨r, 0, none⟩), .int .i64 t, .bool b] w2 fun e w3 => e = .returned (.int .i64 (removeE its t b)) ∧ St w w3 q m1 m2 n r its ∧ Turn (PF q m1 m2 tv r sv) w1 w3 := by
  refine C.mono fun e w2 ⟨h2, ht, hz0, hz1⟩ => ⟨h2, ?_⟩
  have hl := he.len
  by_cases hs : removeE its t b = 0
  · obtain ⟨tv', hq, hF⟩ := hz1 hs
    have p2 := h1.stepQ ht hq hF (fun x hx => Or.inl ⟨x, mem_removed hx, rfl⟩)
    refine (rRemove_any p2.b t b (by omega)).mono fun e w3 ⟨h3, ht3, _, hy1⟩ => ?_
    rw [← he.remove t b] at h3 hy1
    obtain ⟨sv', hr, hF'⟩ := hy1 hs
    exact ⟨h3, ⟨n, tv', _, sv', _, Nat.le_succ _, p2.stepR ht3 hr hF' (fun x hx => Or.inl ⟨x, mem_removed hx, rfl⟩), he.removed t, Step.drop t b hs⟩, ht.both ht3⟩
  · have p2 := h1.stepQ ht (hz0 hs) (fun k hk => Or.inl hk) (fun x hx => Or.inl ⟨x, hx, rfl⟩)
    refine (rRemove_any p2.b t b (by omega)).mono fun e w3 ⟨h3, ht3, hy0, _⟩ => ?_
    rw [← he.remove t b] at h3 hy0
    exact ⟨h3, ⟨n, tv, _, sv, _, Nat.le_succ _, p2.stepR ht3 (hy0 hs) (fun k hk => Or.inl hk) (fun x hx => Or.inl ⟨x, hx, rfl⟩), he, Step.same⟩, ht.both ht3⟩
end
theorem tagAt_wf {w : World} {r : Nat} {sv : Value} {jts : List QItem} (h : RAt w r sv jts) {K : Int} (hK : (Lit.int .i64 K).wf = true) : (Lit.int .i64 (tagAt jts K)).wf = true := by
  unfold tagAt
  split
  · exact hK
  · rename_i hn
    have hp : 0 < jts.length := by
      rcases Nat.eq_zero_or_pos jts.length with h0 | h0
      · exact absurd (Or.inr h0) hn
      · exact h0
    obtain ⟨x, hx⟩ : ∃ x, jts[K.toNat % jts.length]? = some x := ⟨_, List.getElem?_eq_getElem (Nat.mod_lt _ hp)⟩
    rw [getD_of (tagsOf_at hx)]
    exact (h.ok x (List.mem_of_getElem? hx)).2
@[reducible] def actArr (kind K : Int) (c : Cmd) : Array Value := #[.int .i64 kind, .int .i64 K, .int .i64 c.tag, .int .i64 c.kind, .int .i64 c.ord, .bool c.force, .string c.vol, .string c.oth, .int .i64 c.pos, .int .i64 c.len, .slice c.da c.bs.length c.dc]
theorem actCells {w : World} {g : Nat} {kind K : Int} {c : Cmd} (h : w.heap[g]? = some (.cells (actArr kind K c) 44 (0, 0))) : w.cell? ⟨g, 0, none⟩ = some (.int .i64 kind) ∧ w.cell? ⟨g, 1, none⟩ = some (.int .i64 K) ∧
    w.cell? ⟨g, 2, none⟩ = some (.int .i64 c.tag) ∧ w.cell? ⟨g, 3, none⟩ = some (.int .i64 c.kind) ∧ w.cell? ⟨g, 4, none⟩ = some (.int .i64 c.ord) ∧ w.cell? ⟨g, 5, none⟩ = some (.bool c.force) ∧ w.cell? ⟨g, 6, none⟩ = some (.string c.vol) ∧
    w.cell? ⟨g, 7, none⟩ = some (.string c.oth) ∧ w.cell? ⟨g, 8, none⟩ = some (.int .i64 c.pos) ∧ w.cell? ⟨g, 9, none⟩ = some (.int .i64 c.len) ∧ w.cell? ⟨g, 10, none⟩ = some (.slice c.da c.bs.length c.dc) := by
  refine ⟨?_, ?_, ?_, ?_, ?_, ?_, ?_, ?_, ?_, ?_, ?_⟩
  all_goals (rw [World.cell?, h]; rfl)
theorem step_same {w w' : World} {q m1 m2 n r : Nat} {tv sv : Value} {its jts : List QItem} (h : PW w w' q m1 m2 n tv its r sv jts) (he : Eqv its jts) : St w w' q m1 m2 n r its := ⟨n, tv, its, sv, jts, Nat.le_succ _, h, he, Step.same⟩

set_option maxHeartbeats 4000000 in
theorem do_any {w wc : World} {q m1 m2 n r : Nat} {tv sv : Value} {its jts : List QItem} (h : PW w wc q m1 m2 n tv its r sv jts) (he : Eqv its jts) (kind K : Int) (c : Cmd) (hc : CmdOk w c) (hK : (Lit.int .i64 K).wf = true) (hn : n < 1000000) (hm : its.length ≤ 1000000) :
    Calls Tryd.prog 30 #[.pointer (some ⟨q, 0, none⟩), .pointer (some ⟨r, 0, none⟩), actVal kind K c] wc fun e w' => e = .returned (.bool true) ∧ St w w' q m1 m2 n r its ∧ Turn (PF q m1 m2 tv r sv) wc w' := by
  have hb := below_box wc (actArr kind K c) 44
  have hl := he.len
  have CT := Lib.hid (rTag_any (h.grow hb).b kind K c (by omega))
  have HBX : Hid ((wc.alloc (.cells (actArr kind K c) 44)).heap[wc.heap.size]? = some (.cells (actArr kind K c) 44 (0, 0))) := heap_alloc_new wc _
  have HWF := Lib.hid (tagAt_wf h.b hK)
  have HB := Lib.hid hb
  have HH := Lib.hid h
  have HE := Lib.hid he
  have HC := Lib.hid hc
  clear hb h he hl hK hc
  go_enter Tryd.func30, Tryd.ntmps30
  go_wp2_with fail
  refine CT.out.mono ?_
  rintro e w1 ⟨rfl, hB1⟩
  have hBc := HB.out.trans (hB1.mono HB.out.size)
  have P1 := Lib.hid (HH.out.grow hBc)
  have B1 : Hid (w1.heap[wc.heap.size]? = some (.cells (actArr kind K c) 44 (0, 0))) := below_heap hB1 HBX.out
  obtain ⟨t0, t1, t2, t3, t4, t5, t6, t7, t8, t9, t10⟩ := actCells B1.out
  generalize tagAt jts K = tag at HWF ⊢
  clear CT hB1
  by_cases k0 : kind = 0
  · subst k0
    have hdw : RowKit.Below w1.heap.size w1 w1.drew := (RowKit.Below.refl _ _).drew
    have C := Lib.hid (do_submit (P1.out.grow hdw) HE.out c HC.out hn hm)
    have key : ∀ W : World, W.heap[wc.heap.size]? = some (.cells (actArr 0 K c) 44 (0, 0)) → (W.cell? ⟨wc.heap.size, 2, none⟩ = some (.int .i64 c.tag) ∧ W.cell? ⟨wc.heap.size, 3, none⟩ = some (.int .i64 c.kind) ∧ W.cell? ⟨wc.heap.size, 4, none⟩ = some (.int .i64 c.ord) ∧ W.cell? ⟨wc.heap.size, 5, none⟩ = some (.bool c.force) ∧ W.cell? ⟨wc.heap.size, 6, none⟩ = some (.string c.vol) ∧ W.cell? ⟨wc.heap.size, 7, none⟩ = some (.string c.oth) ∧ W.cell? ⟨wc.heap.size, 8, none⟩ = some (.int .i64 c.pos) ∧ W.cell? ⟨wc.heap.size, 9, none⟩ = some (.int .i64 c.len) ∧ W.cell? ⟨wc.heap.size, 10, none⟩ = some (.slice c.da c.bs.length c.dc)) := fun W hW => (actCells hW).2.2
    have hnq : ¬ QF q m1 m2 tv wc.heap.size := fun hq => by have := qf_lt HH.out.a.qa hq; omega
    have hnr : ¬ RF r sv wc.heap.size := fun hq => by have := rf_lt HH.out.b hq; omega
    have SK : Hid (∀ W, RowKit.Below w1.heap.size w1 W → (W.cell? ⟨wc.heap.size, 2, none⟩ = some (.int .i64 c.tag) ∧ W.cell? ⟨wc.heap.size, 3, none⟩ = some (.int .i64 c.kind) ∧ W.cell? ⟨wc.heap.size, 4, none⟩ = some (.int .i64 c.ord) ∧ W.cell? ⟨wc.heap.size, 5, none⟩ = some (.bool c.force) ∧ W.cell? ⟨wc.heap.size, 6, none⟩ = some (.string c.vol) ∧ W.cell? ⟨wc.heap.size, 7, none⟩ = some (.string c.oth) ∧ W.cell? ⟨wc.heap.size, 8, none⟩ = some (.int .i64 c.pos) ∧ W.cell? ⟨wc.heap.size, 9, none⟩ = some (.int .i64 c.len) ∧ W.cell? ⟨wc.heap.size, 10, none⟩ = some (.slice c.da c.bs.length c.dc))) := fun W hW => key W (below_heap hW B1.out)
    have SK1 : Hid (∀ W, Turn (QF q m1 m2 tv) w1.drew W → (W.cell? ⟨wc.heap.size, 2, none⟩ = some (.int .i64 c.tag) ∧ W.cell? ⟨wc.heap.size, 3, none⟩ = some (.int .i64 c.kind) ∧ W.cell? ⟨wc.heap.size, 4, none⟩ = some (.int .i64 c.ord) ∧ W.cell? ⟨wc.heap.size, 5, none⟩ = some (.bool c.force) ∧ W.cell? ⟨wc.heap.size, 6, none⟩ = some (.string c.vol) ∧ W.cell? ⟨wc.heap.size, 7, none⟩ = some (.string c.oth) ∧ W.cell? ⟨wc.heap.size, 8, none⟩ = some (.int .i64 c.pos) ∧ W.cell? ⟨wc.heap.size, 9, none⟩ = some (.int .i64 c.len) ∧ W.cell? ⟨wc.heap.size, 10, none⟩ = some (.slice c.da c.bs.length c.dc))) := fun W hW => key W (hW.heap (below_heap hdw B1.out) hnq)
    have SK2 : Hid (∀ W2 W, Turn (QF q m1 m2 tv) w1.drew W2 → Turn (RF r sv) W2 W → (W.cell? ⟨wc.heap.size, 2, none⟩ = some (.int .i64 c.tag) ∧ W.cell? ⟨wc.heap.size, 3, none⟩ = some (.int .i64 c.kind) ∧ W.cell? ⟨wc.heap.size, 4, none⟩ = some (.int .i64 c.ord) ∧ W.cell? ⟨wc.heap.size, 5, none⟩ = some (.bool c.force) ∧ W.cell? ⟨wc.heap.size, 6, none⟩ = some (.string c.vol) ∧ W.cell? ⟨wc.heap.size, 7, none⟩ = some (.string c.oth) ∧ W.cell? ⟨wc.heap.size, 8, none⟩ = some (.int .i64 c.pos) ∧ W.cell? ⟨wc.heap.size, 9, none⟩ = some (.int .i64 c.len) ∧ W.cell? ⟨wc.heap.size, 10, none⟩ = some (.slice c.da c.bs.length c.dc))) := fun W2 W h2 hW => key W (hW.heap (h2.heap (below_heap hdw B1.out) hnq) hnr)
    have HDW := Lib.hid hdw
    clear key hnq hnr hdw t1 t2 t3 t4 t5 t6 t7 t8 t9 t10
    go_wp2_with fail
    go_region_held3 (fun W => W.cell? ⟨wc.heap.size, 2, none⟩ = some (.int .i64 c.tag) ∧ W.cell? ⟨wc.heap.size, 3, none⟩ = some (.int .i64 c.kind) ∧ W.cell? ⟨wc.heap.size, 4, none⟩ = some (.int .i64 c.ord) ∧ W.cell? ⟨wc.heap.size, 5, none⟩ = some (.bool c.force) ∧ W.cell? ⟨wc.heap.size, 6, none⟩ = some (.string c.vol) ∧ W.cell? ⟨wc.heap.size, 7, none⟩ = some (.string c.oth) ∧ W.cell? ⟨wc.heap.size, 8, none⟩ = some (.int .i64 c.pos) ∧ W.cell? ⟨wc.heap.size, 9, none⟩ = some (.int .i64 c.len) ∧ W.cell? ⟨wc.heap.size, 10, none⟩ = some (.slice c.da c.bs.length c.dc))
      ((first | exact SK2.out _ _ hT2 hT3 | exact SK1.out _ hT2 | exact SK.out _ HDW.out | exact SK.out _ (RowKit.Below.refl _ _)))
      ((first | (go_at_call 35; refine C.out.mono ?_; rintro e w2 ⟨rfl, hT2, hC2⟩) | (go_at_call 55; refine hC2.mono ?_; rintro e w3 ⟨rfl, hT3, hS, hTB⟩)))
    all_goals
      have HS := Lib.hid hS
      have HTB := Lib.hid hTB
      clear hS hTB hC2 hT2 hT3
      go_wp2
      go_ret
      exact ⟨by simp, HS.out, (Turn.of_below (F := PF q m1 m2 tv r sv) (hBc.trans (HDW.out.mono hBc.size))).trans HTB.out (fun _ _ h => h)⟩
  · by_cases k1 : kind = 1
    · subst k1
      have C := Lib.hid (do_start P1.out HE.out tag HWF.out hn hm)
      clear t1 t2 t3 t4 t5 t6 t7 t8 t9 t10
      go_wp2_with fail
      refine C.out.mono ?_
      rintro e w2 ⟨rfl, hC2⟩
      have C2 := Lib.hid hC2
      clear hC2 C t0
      go_wp2_with fail
      refine C2.out.mono ?_
      rintro e w3 ⟨rfl, hS, hTB⟩
      have HS := Lib.hid hS
      have HTB := Lib.hid hTB
      clear hS hTB C2
      go_wp2
      go_ret
      exact ⟨by simp, HS.out, (Turn.of_below (F := PF q m1 m2 tv r sv) hBc).trans HTB.out (fun _ _ h => h)⟩
    · by_cases k2 : kind = 2
      · subst k2
        have C := Lib.hid (do_remove P1.out HE.out 37 true tag (finish_any P1.out.a.qa HWF.out hm) hm)
        clear t1 t2 t3 t4 t5 t6 t7 t8 t9 t10
        go_wp2_with fail
        refine C.out.mono ?_
        rintro e w2 ⟨rfl, hC2⟩
        have C2 := Lib.hid hC2
        clear hC2 C t0
        go_wp2_with fail
        refine C2.out.mono ?_
        rintro e w3 ⟨rfl, hS, hTB⟩
        have HS := Lib.hid hS
        have HTB := Lib.hid hTB
        clear hS hTB C2
        go_wp2
        go_ret
        exact ⟨by simp, HS.out, (Turn.of_below (F := PF q m1 m2 tv r sv) hBc).trans HTB.out (fun _ _ h => h)⟩
      · by_cases k3 : kind = 3
        · subst k3
          have C := Lib.hid (do_remove P1.out HE.out 38 false tag (cancel_any P1.out.a.qa HWF.out hm) hm)
          clear t1 t2 t3 t4 t5 t6 t7 t8 t9 t10
          go_wp2_with fail
          refine C.out.mono ?_
          rintro e w2 ⟨rfl, hC2⟩
          have C2 := Lib.hid hC2
          clear hC2 C t0
          go_wp2_with fail
          refine C2.out.mono ?_
          rintro e w3 ⟨rfl, hS, hTB⟩
          have HS := Lib.hid hS
          have HTB := Lib.hid hTB
          clear hS hTB C2
          go_wp2
          go_ret
          exact ⟨by simp, HS.out, (Turn.of_below (F := PF q m1 m2 tv r sv) hBc).trans HTB.out (fun _ _ h => h)⟩
        · have e0 : (kind == 0) = false := by simpa using k0
          have e1 : (kind == 1) = false := by simpa using k1
          have e2 : (kind == 2) = false := by simpa using k2
          have e3 : (kind == 3) = false := by simpa using k3
          have HS := Lib.hid (step_same P1.out HE.out)
          clear t1 t2 t3 t4 t5 t6 t7 t8 t9 t10
          go_wp2_with fail
          go_ret
          exact ⟨rfl, HS.out, Turn.of_below hBc⟩

end Go.Proofs.YtfbafjlhdbjgoaaDoor
