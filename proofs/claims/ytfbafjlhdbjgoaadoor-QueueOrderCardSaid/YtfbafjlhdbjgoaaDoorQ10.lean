/- Start of the queue; the queue's methods on nil. -/
import Derived.Test.YtfbafjlhdbjgoaaDoorQ9
namespace Go.Proofs.YtfbafjlhdbjgoaaDoor
set_option linter.unusedVariables false
set_option linter.unusedSimpArgs false
open Go.RowKit Go.Sort
set_option maxRecDepth 100000

def setSt (its : List QItem) (tag : Int) : List QItem := its.map fun x => if x.1.tag = tag then (x.1, true) else x
theorem setSt_tags (its : List QItem) (tag : Int) : tagsOf (setSt its tag) = tagsOf its := by
  unfold tagsOf setSt
  rw [List.map_map]
  apply List.map_congr_left
  intro x _
  simp only [Function.comp]
  split <;> rfl
theorem setSt_cmd : ∀ (its : List QItem) (tag k : Int), cmdMap (setSt its tag) k = cmdMap its k
  | [], _, _ => rfl
  | x :: its, tag, k => by
    have ih := setSt_cmd its tag k
    unfold cmdMap setSt at *
    simp only [List.map_cons, List.find?_cons]
    by_cases h : x.1.tag = tag
    · simp only [h, if_true]
      by_cases hk : tag = k
      · simp [hk]
      · simp only [hk, beq_iff_eq, show (tag == k) = false by simpa using hk]
        exact ih
    · simp only [h, if_false]
      by_cases hk : x.1.tag = k
      · simp [hk]
      · simp only [show (x.1.tag == k) = false by simpa using hk]
        exact ih
theorem setSt_st {its : List QItem} {tag : Int} (ht : hasTag its tag = true) (k : Int) : (if k = tag then some (Value.bool true) else stMap its k) = stMap (setSt its tag) k := by
  by_cases hk : k = tag
  · subst hk
    rw [if_pos rfl]
    obtain ⟨y, hy, e⟩ := List.any_eq_true.1 ht
    have e' : y.1.tag = k := by simpa using e
    unfold stMap
    cases hf : (setSt its k).find? (fun x => x.1.tag == k && x.2) with
    | some x => rfl
    | none =>
      have hmem : (y.1, true) ∈ setSt its k := List.mem_map.2 ⟨y, hy, by rw [if_pos e']⟩
      exact absurd (List.find?_eq_none.1 hf _ hmem) (by simp [e'])
  · rw [if_neg hk]
    clear ht
    induction its with
    | nil => rfl
    | cons x its ih =>
      unfold stMap setSt at *
      simp only [List.map_cons, List.find?_cons]
      by_cases h : x.1.tag = tag
      · have hne : (x.1.tag == k) = false := by rw [h]; simpa using fun e : tag = k => hk e.symm
        have hne2 : (tag == k) = false := by simpa using fun e : tag = k => hk e.symm
        simp only [h, if_true, hne2, Bool.false_and]
        exact ih
      · simp only [h, if_false]
        cases hx : (x.1.tag == k && x.2) with
        | true => rfl
        | false => exact ih
def startE (its : List QItem) (tag : Int) : Int := if hasTag its tag = false then 9 else if tag ∉ eligTags its then 8 else 0
theorem eligTags_len (its : List QItem) : (eligTags its).length ≤ its.length := filtTo_len _ _ _

set_option maxHeartbeats 2000000 in
theorem start_any {w : World} {q m1 m2 n : Nat} {tv : Value} {its : List QItem} (h : QAt w q m1 m2 n tv its) {tag : Int} (hk : (Lit.int .i64 tag).wf = true) (hn : n < 1000000) (hm : its.length ≤ 1000000) :
    Calls Tryd.prog 36 #[.pointer (some ⟨q, 0, none⟩), .int .i64 tag] w fun e w' => e = .returned (.int .i64 (startE its tag)) ∧ Turn (QF q m1 m2 tv) w w' ∧ (startE its tag ≠ 0 → QAt w' q m1 m2 n tv its) ∧ (startE its tag = 0 → QAt w' q m1 m2 (n + 1) tv (setSt its tag)) := by
  have CK := known_any h hk
  have H := Lib.hid h
  clear h
  go_enter Tryd.func36, Tryd.ntmps36
  go_wp2_with fail
  refine CK.mono ?_
  rintro e w1 ⟨rfl, hB1⟩
  clear CK
  cases ht : hasTag its tag with
  | false =>
    have HK : Hid (knownE its tag = 9) := by show knownE its tag = 9; simp [knownE, ht]
    have HE : Hid (startE its tag = 9) := by show startE its tag = 9; simp [startE, ht]
    rw [HK.out]
    clear ht
    go_wp2
    go_ret
    exact ⟨ret_int HE.out.symm, Turn.of_below hB1, fun _ => H.out.grow hB1, fun h0 => by rw [HE.out] at h0; cases h0⟩
  | true =>
    have HK : Hid (knownE its tag = 0) := by show knownE its tag = 0; simp [knownE, ht]
    have HT := Lib.hid ht
    rw [HK.out]
    clear ht
    have CE := eligible_any (H.out.grow hB1) (by omega)
    go_wp2_with fail
    refine CE.mono ?_
    rintro e w2 ⟨a, c, rfl, hI, hB2⟩
    have hB := hB1.trans (hB2.mono hB1.size)
    clear CE
    go_wp2_with fail
    refine (contains_any a c (eligTags its) tag _ hI (by have := eligTags_len its; omega)).mono ?_
    rintro e w3 ⟨rfl, hB3⟩
    have hBc := hB.trans (hB3.mono hB.size)
    by_cases he : tag ∈ eligTags its
    · have HE : Hid (startE its tag = 0) := by show startE its tag = 0; simp [startE, HT.out, he]
      have HD : Hid (decide (tag ∈ eligTags its) = true) := decide_eq_true he
      rw [HD.out]
      have h3 := H.out.grow hBc
      have q2 := h3.q2
      obtain ⟨w4, hrun, hmap, hturn⟩ := h3.st.store (t := 66) (e := 4) Tryd.underlying66 (by unfold maxLen; omega) hk (.bool true)
      obtain ⟨p1, p2, p3, p4, p5⟩ := h3.parts
      have ht4 := Turn.of_map hturn
      have hb4 : ∀ k, k < w3.heap.size → k ≠ m2 → w4.heap[k]? = w3.heap[k]? := fun k h1 h2 => ht4.block k h1 h2
      have T4 : Turn (QF q m1 m2 tv) w3 w4 := (Turn.refl _ w3).trans ht4 (fun i _ e => Or.inr (Or.inr (Or.inl e)))
      have hfin : Hid (QAt w4 q m1 m2 (n + 1) tv (setSt its tag) ∧ Turn (QF q m1 m2 tv) w w4) := by
        refine ⟨h3.next T4 ((hb4 q h3.qlt p2).trans h3.box) ?_ ?_ ?_ h3.tq ?_ (fun k _ hq => hq) (by rw [setSt_tags]; exact h3.nod), (Turn.of_below hBc).trans ht4 (fun i _ e => Or.inr (Or.inr (Or.inl e)))⟩
        · rw [setSt_tags]
          exact ownsRow_block h3.tags (fun k hk' => hb4 k (p5 k hk') (fun e => p4 (e ▸ hk')))
        · exact ((h3.cm.block (hb4 m1 h3.cm.lt h3.ne)).raise (Nat.le_succ n)).congr (fun k => (setSt_cmd its tag k).symm)
        · exact hmap.congr (fun k => setSt_st HT.out k)
        · intro x hx
          unfold setSt at hx
          rw [List.mem_map] at hx
          obtain ⟨y, hy, rfl⟩ := hx
          refine Or.inl ⟨y, hy, ?_⟩
          split <;> rfl
      clear he hI h3 hmap hturn ht4 hb4 T4 p1 p2 p3 p4 p5
      go_wp2
      go_ret
      exact ⟨ret_int HE.out.symm, hfin.out.2, fun h0 => absurd HE.out h0, fun _ => hfin.out.1⟩
    · have HE : Hid (startE its tag = 8) := by show startE its tag = 8; simp [startE, HT.out, he]
      have HD : Hid (decide (tag ∈ eligTags its) = false) := decide_eq_false he
      rw [HD.out]
      clear he hI
      go_wp2
      go_ret
      exact ⟨ret_int HE.out.symm, Turn.of_below hBc, fun _ => H.out.grow hBc, fun h0 => by rw [HE.out] at h0; cases h0⟩

theorem submitNil (c : Cmd) (w : World) : Calls Tryd.prog 35 #[.pointer none, c.val] w fun e w' => e = .returned (.int .i64 8) ∧ RowKit.Below w.heap.size w w' := by
  go_enter Tryd.func35, Tryd.ntmps35
  go_wp2
  go_ret
  exact ⟨rfl, below_box _ _ _⟩
theorem startNil (tag : Int) (w : World) : Calls Tryd.prog 36 #[.pointer none, .int .i64 tag] w fun e w' => e = .returned (.int .i64 8) ∧ RowKit.Below w.heap.size w w' := by
  go_enter Tryd.func36, Tryd.ntmps36
  go_wp2_with fail
  refine (knownNil_any tag _).mono ?_
  rintro e w1 ⟨rfl, hB1⟩
  go_wp2
  go_ret
  exact ⟨rfl, hB1⟩
theorem removeNil (tag : Int) (b : Bool) (w : World) : Calls Tryd.prog 68 #[.pointer none, .int .i64 tag, .bool b] w fun e w' => e = .returned (.int .i64 8) ∧ RowKit.Below w.heap.size w w' := by
  have hb := below_box w #[.int .i64 tag] 3
  go_enter Tryd.func68, Tryd.ntmps68
  go_wp2_with fail
  refine (knownNil_any tag _).mono ?_
  rintro e w1 ⟨rfl, hB1⟩
  go_wp2
  go_ret
  exact ⟨rfl, hb.trans (hB1.mono hb.size)⟩
theorem finishNil (tag : Int) (w : World) : Calls Tryd.prog 37 #[.pointer none, .int .i64 tag] w fun e w' => e = .returned (.int .i64 8) ∧ RowKit.Below w.heap.size w w' := by
  go_enter Tryd.func37, Tryd.ntmps37
  go_wp2_with fail
  refine (removeNil tag true _).mono ?_
  rintro e w1 ⟨rfl, hB1⟩
  go_wp2
  go_ret
  exact ⟨rfl, hB1⟩
theorem cancelNil (tag : Int) (w : World) : Calls Tryd.prog 38 #[.pointer none, .int .i64 tag] w fun e w' => e = .returned (.int .i64 8) ∧ RowKit.Below w.heap.size w w' := by
  go_enter Tryd.func38, Tryd.ntmps38
  go_wp2_with fail
  refine (removeNil tag false _).mono ?_
  rintro e w1 ⟨rfl, hB1⟩
  go_wp2
  go_ret
  exact ⟨rfl, hB1⟩
end Go.Proofs.YtfbafjlhdbjgoaaDoor
