/- The reference queue: Remove. -/
import Derived.Test.YtfbafjlhdbjgoaaDoorR6
namespace Go.Proofs.YtfbafjlhdbjgoaaDoor
set_option linter.unusedVariables false
set_option linter.unusedSimpArgs false
open Go.RowKit Go.Sort
set_option maxRecDepth 100000

theorem removeE_at {its : List QItem} {tag : Int} (h : (tagsOf its).Nodup) {k : Nat} {x : QItem} (hx : its[k]? = some x) (ht : x.1.tag = tag) (b : Bool) : removeE its tag b = if x.2 = b then 0 else 8 := by
  have h1 : hasTag its tag = true := List.any_eq_true.2 ⟨x, List.mem_of_getElem? hx, by simp [ht]⟩
  unfold removeE
  rw [h1, ← ht, stB_of h (List.mem_of_getElem? hx)]
  simp

set_option maxHeartbeats 4000000 in
theorem rRemove_any {w : World} {r : Nat} {sv : Value} {its : List QItem} (h : RAt w r sv its) (tag : Int) (b : Bool) (hm : its.length ≤ 1000000) :
    Calls Tryd.prog 57 #[.pointer (some ⟨r, 0, none⟩), .int .i64 tag, .bool b] w fun e w' => e = .returned (.int .i64 (removeE its tag b)) ∧ Turn (RF r sv) w w' ∧ (removeE its tag b ≠ 0 → RAt w' r sv its) ∧
      (removeE its tag b = 0 → ∃ sv', RAt w' r sv' (removed its tag) ∧ ∀ j, RF r sv' j → RF r sv j ∨ w.heap.size ≤ j) := by
  have CF := Lib.hid (find_any h tag hm)
  have H := Lib.hid h
  clear h
  go_enter Tryd.func57, Tryd.ntmps57
  go_wp2_with fail
  refine CF.out.mono ?_
  rintro e w1 ⟨rfl, hB1⟩
  clear CF
  cases hf : its.find? (fun x => x.1.tag == tag) with
  | none =>
    have HK : Hid (idxOf (tagsOf its) tag = -1) := find_no hf
    have HE : Hid (removeE its tag b = 9) := by show removeE its tag b = 9; simp [removeE, hasTag_none hf]
    rw [HK.out]
    clear hf
    go_wp2
    go_ret
    exact ⟨ret_int HE.out.symm, Turn.of_below hB1, fun _ => H.out.grow hB1, fun h0 => by rw [HE.out] at h0; cases h0⟩
  | some x =>
    obtain ⟨k, hx, hxt, hidx⟩ := find_idx hf
    have HK := Lib.hid hidx
    have HX := Lib.hid hx
    have HXT := Lib.hid hxt
    have hkl : k < its.length := (List.getElem?_eq_some_iff.1 hx).1
    rw [HK.out]
    have h1 := H.out.grow hB1
    have H1 := Lib.hid h1
    obtain ⟨a, c, rfl, hI⟩ := h1.items
    obtain ⟨ab, o, rfl, hcs⟩ := hI (by omega)
    have r0 := h1.r0
    have g9 := (hcs k x hx).2
    clear hf hx hxt hidx h1 hI hcs
    by_cases hb : x.2 = b
    · have HE : Hid (removeE its tag b = 0) := by show removeE its tag b = 0; rw [removeE_at H.out.nod HX.out HXT.out, if_pos hb]
      have CD := Lib.hid (drop_any H1.out HX.out hm)
      have HR : Hid (removed its tag = its.take k ++ its.drop (k + 1)) := by
        obtain ⟨hA, hB⟩ := split_tag H.out.nod HX.out
        have e := removed_split (x := x) hA hB
        rwa [← split_at HX.out, HXT.out] at e
      subst hb
      go_wp2_with fail
      refine CD.out.mono ?_
      rintro e w2 ⟨rfl, sv', hR', hT', hF'⟩
      have HH := Lib.hid hR'
      have HT := Lib.hid hT'
      have HF := Lib.hid hF'
      clear hR' hT' hF' CD r0 g9
      go_wp2
      go_ret
      exact ⟨ret_int HE.out.symm, (Turn.of_below (F := RF r (.slice (some ⟨ab, o, none⟩) its.length c)) hB1).trans HT.out (fun _ _ h => h), fun h0 => absurd HE.out h0, fun _ => ⟨sv', by rw [HR.out]; exact HH.out, fun j hj => (HF.out j hj).imp id (fun h => Nat.le_trans hB1.size h)⟩⟩
    · have HE : Hid (removeE its tag b = 8) := by show removeE its tag b = 8; rw [removeE_at H.out.nod HX.out HXT.out, if_neg hb]
      have hb' : b = !x.2 := by cases b <;> cases h : x.2 <;> simp_all
      subst hb'
      clear hb
      go_wp2
      go_ret
      exact ⟨ret_int HE.out.symm, Turn.of_below hB1, fun _ => H.out.grow hB1, fun h0 => by rw [HE.out] at h0; cases h0⟩
end Go.Proofs.YtfbafjlhdbjgoaaDoor
