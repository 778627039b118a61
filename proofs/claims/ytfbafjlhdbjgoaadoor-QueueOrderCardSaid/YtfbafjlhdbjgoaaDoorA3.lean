/- name, Name. -/
import Derived.Test.YtfbafjlhdbjgoaaDoorA1
import Derived.Test.YtfbafjlhdbjgoaaDoorTrim
namespace Go.Proofs.YtfbafjlhdbjgoaaDoor
set_option linter.unusedVariables false
set_option linter.unusedSimpArgs false
open Go.RowKit Go.Lib

def letB (b : UInt8) : Bool := decide (97 ≤ b.toNat ∧ b.toNat ≤ 122)
def chrB (b : UInt8) : Bool := decide ((97 ≤ b.toNat ∧ b.toNat ≤ 122) ∨ (48 ≤ b.toNat ∧ b.toNat ≤ 57))
/-- The text is the name of a volume. -/
def nameB (s : ByteArray) : Bool := decide (1 ≤ s.size ∧ s.size ≤ 16) && (s.data.toList.head?.any letB && s.data.toList.all chrB)

def setC : List UInt8 := [97, 98, 99, 100, 101, 102, 103, 104, 105, 106, 107, 108, 109, 110, 111, 112, 113, 114, 115, 116, 117, 118, 119, 120, 121, 122, 48, 49, 50, 51, 52, 53, 54, 55, 56, 57]
theorem setC_contains (b : UInt8) : setC.contains b = chrB b := by
  have h : ∀ n : Fin 256, setC.contains (UInt8.ofNat n.val) = chrB (UInt8.ofNat n.val) := by decide +kernel
  have := h ⟨b.toNat, b.toNat_lt⟩
  simpa using this

theorem dropWhile_nil_iff {α : Type} (p : α → Bool) : ∀ l : List α, (l.dropWhile p = [] ↔ l.all p = true)
  | [] => by simp
  | a :: l => by
    by_cases h : p a = true
    · simp only [List.dropWhile, h, List.all_cons, Bool.true_and]
      exact dropWhile_nil_iff p l
    · simp [List.dropWhile, h]

theorem trim_empty (l : List UInt8) : trimS l setC = [] ↔ l.all chrB = true := by
  have hp : (fun b => setC.contains b) = chrB := funext setC_contains
  unfold trimS trimLeftS trimRightS
  rw [hp, dropWhile_nil_iff]
  constructor
  · intro h
    by_cases h0 : l.reverse.dropWhile chrB = []
    · have := (dropWhile_nil_iff chrB l.reverse).1 h0
      simpa using this
    · exfalso
      have h1 := List.head_dropWhile_not (p := chrB) (l := l.reverse) h0
      rw [List.all_reverse, List.all_eq_true] at h
      have h2 := h _ (List.head_mem h0)
      simp [h1] at h2
  · intro h
    have : l.reverse.dropWhile chrB = [] := (dropWhile_nil_iff chrB l.reverse).2 (by simpa using h)
    rw [this]; rfl

theorem head_any (s : ByteArray) (h : 0 < s.size) : s.data.toList.head?.any letB = letB s[0] := by
  have h0 : 0 < s.data.toList.length := by simpa using h
  rw [List.head?_eq_getElem?, List.getElem?_eq_getElem h0]
  rfl

theorem nb_small (s : ByteArray) (h : ¬ (1 ≤ s.size ∧ s.size ≤ 16)) : nameB s = false := by simp only [nameB, h, decide_false, Bool.false_and]
theorem nb_first (s : ByteArray) (h : 0 < s.size) (hc : ¬ (97 ≤ s[0].toNat ∧ s[0].toNat ≤ 122)) : nameB s = false := by
  have : letB s[0] = false := decide_eq_false hc
  simp only [nameB, head_any s h, this, Bool.false_and, Bool.and_false]
theorem nb_all (s : ByteArray) (h : 0 < s.size) (h1 : s.size ≤ 16) (hc : 97 ≤ s[0].toNat ∧ s[0].toNat ≤ 122) : nameB s = s.data.toList.all chrB := by
  have e : letB s[0] = true := decide_eq_true hc
  have e2 : decide (1 ≤ s.size ∧ s.size ≤ 16) = true := decide_eq_true ⟨h, h1⟩
  simp only [nameB, head_any s h, e, e2, Bool.true_and]

set_option maxHeartbeats 1000000 in
set_option maxRecDepth 100000 in
theorem name_any (s : ByteArray) (w : World) (hs : s.size ≤ 9223372036854775807) : Calls Tryd.prog 81 #[.string s] w fun e w' => e = .returned (.bool (nameB s)) ∧ Below w.heap.size w w' := by
  have hcon := Any.strings_Trim_laid Tryd.lays160 (by kernel_rfl) s ⟨#[97, 98, 99, 100, 101, 102, 103, 104, 105, 106, 107, 108, 109, 110, 111, 112, 113, 114, 115, 116, 117, 118, 119, 120, 121, 122, 48, 49, 50, 51, 52, 53, 54, 55, 56, 57]⟩ w (by omega) (by decide) (ascii_of_all (by decide))
  change Calls Tryd.prog 86 _ _ (fun e w' => e = .returned (.string ⟨(Lib.trimS s.data.toList setC).toArray⟩) ∧ Below w.heap.size w w') at hcon
  have hr : (⟨(Lib.trimS s.data.toList setC).toArray⟩ : ByteArray).toList.isEmpty = s.data.toList.all chrB := by
    rw [ByteArray.toList_eq, Bool.eq_iff_iff, ← trim_empty]
    simp
  generalize (⟨(Lib.trimS s.data.toList setC).toArray⟩ : ByteArray) = r at hcon hr
  have HR := Lib.hid hr; clear hr
  have HC := Lib.hid hcon; clear hcon
  go_enter Tryd.func81, Tryd.ntmps81
  go_wp2_with (go_at_call 86; refine (HC.out).mono ?_; rintro e w' ⟨rfl, hB⟩)
  all_goals go_ret
  · exact ⟨ret_bool (nb_first s (by omega) (by omega)).symm, Below.refl _ _⟩
  · exact ⟨ret_bool (HR.out.trans (nb_all s (by omega) (by omega) (by omega)).symm), hB⟩
  · exact ⟨ret_bool (nb_first s (by omega) (by omega)).symm, Below.refl _ _⟩
  · exact ⟨ret_bool (nb_small s (by omega)).symm, Below.refl _ _⟩
  · exact ⟨ret_bool (nb_small s (by omega)).symm, Below.refl _ _⟩

/-- What the reference asks of the first k letters. -/
def NameTo (s : ByteArray) (k : Nat) : Prop := ∀ j (h : j < s.size), j < k → (if j = 0 then letB s[j] else chrB s[j]) = true

theorem nameTo_succ {s : ByteArray} {k : Nat} (hk : k < s.size) (h : NameTo s k) (hc : (if k = 0 then letB s[k] else chrB s[k]) = true) : NameTo s (k + 1) := fun j hj hlt => by
  by_cases e : j = k
  · subst e; exact hc
  · exact h j hj (by omega)
theorem nb_not (s : ByteArray) (k : Nat) (hk : k < s.size) (hc : (if k = 0 then letB s[k] else chrB s[k]) = false) : nameB s = false := by
  by_cases h0 : k = 0
  · subst h0
    rw [if_pos rfl] at hc
    simp only [nameB, head_any s hk, hc, Bool.false_and, Bool.and_false]
  · rw [if_neg h0] at hc
    have hk' : k < s.data.toList.length := by simpa using hk
    have : s.data.toList.all chrB = false := by
      rw [List.all_eq_false]
      exact ⟨s.data.toList[k], List.getElem_mem hk', by show ¬ chrB s[k] = true; simp [hc]⟩
    simp only [nameB, this, Bool.and_false]
theorem letB_chrB {b : UInt8} (h : letB b = true) : chrB b = true := by
  have := of_decide_eq_true h
  exact decide_eq_true (.inl this)
theorem nb_yes (s : ByteArray) (h1 : 1 ≤ s.size) (h2 : s.size ≤ 16) (h : NameTo s s.size) : nameB s = true := by
  have e0 : letB s[0] = true := by simpa using h 0 (by omega) (by omega)
  have e2 : decide (1 ≤ s.size ∧ s.size ≤ 16) = true := decide_eq_true ⟨h1, h2⟩
  have e3 : s.data.toList.all chrB = true := by
    rw [List.all_eq_true]
    intro b hb
    obtain ⟨j, hj, rfl⟩ := List.getElem_of_mem hb
    have hj' : j < s.size := by simpa using hj
    have := h j hj' hj'
    show chrB s[j] = true
    by_cases h0 : j = 0
    · rw [if_pos h0] at this; exact letB_chrB this
    · rw [if_neg h0] at this; exact this
  simp only [nameB, head_any s h1, e0, e2, e3, Bool.true_and]

theorem let_yes {b : UInt8} (h1 : 97 ≤ b.toNat) (h2 : b.toNat ≤ 122) : letB b = true := decide_eq_true ⟨h1, h2⟩
theorem let_no {b : UInt8} (h : ¬ (97 ≤ b.toNat ∧ b.toNat ≤ 122)) : letB b = false := decide_eq_false h
theorem chr_yes {b : UInt8} (h : (97 ≤ b.toNat ∧ b.toNat ≤ 122) ∨ (48 ≤ b.toNat ∧ b.toNat ≤ 57)) : chrB b = true := decide_eq_true h
theorem chr_no {b : UInt8} (h : ¬ ((97 ≤ b.toNat ∧ b.toNat ≤ 122) ∨ (48 ≤ b.toNat ∧ b.toNat ≤ 57))) : chrB b = false := decide_eq_false h
theorem at_yes {k : Nat} {b : UInt8} (h0 : k = 0 → 97 ≤ b.toNat ∧ b.toNat ≤ 122) (h : (97 ≤ b.toNat ∧ b.toNat ≤ 122) ∨ (48 ≤ b.toNat ∧ b.toNat ≤ 57)) : (if k = 0 then letB b else chrB b) = true := by
  by_cases e : k = 0
  · rw [if_pos e]; exact let_yes (h0 e).1 (h0 e).2
  · rw [if_neg e]; exact chr_yes h
theorem at_no {k : Nat} {b : UInt8} (h : ¬ (97 ≤ b.toNat ∧ b.toNat ≤ 122)) (h' : k ≠ 0 → ¬ (48 ≤ b.toNat ∧ b.toNat ≤ 57)) : (if k = 0 then letB b else chrB b) = false := by
  by_cases e : k = 0
  · rw [if_pos e]; exact let_no h
  · rw [if_neg e]; exact chr_no (by have := h' e; omega)

theorem nameTo_all {s : ByteArray} {k : Nat} (h : NameTo s k) (hk : k = s.size) : NameTo s s.size := by rw [← hk]; exact h

set_option maxHeartbeats 1000000 in
set_option maxRecDepth 100000 in
theorem refName_any (s : ByteArray) (w : World) (hs : s.size ≤ 9223372036854775807) : Calls Tryd.prog 69 #[.string s] w fun e w' => e = .returned (.bool (nameB s)) ∧ w = w' := by
  by_cases hsz : 1 ≤ s.size ∧ s.size ≤ 16
  · obtain ⟨h1, h2⟩ := hsz
    go_enter Tryd.func69, Tryd.ntmps69
    go_wp2
    go_loop [3, 4] (fun i _ => ∃ k : Nat, k ≤ s.size ∧ i = .int .i64 k ∧ NameTo s k) (fun i _ => s.size - (RowKit.intOf i).toNat)
    case atStart => exact ⟨0, Nat.zero_le _, rfl, fun j _ h => absurd h (by omega)⟩
    case round =>
      obtain ⟨k, hk, rfl, hn⟩ := hrel
      by_cases hlt : k < s.size
      · by_cases hl : 97 ≤ s[k].toNat ∧ s[k].toNat ≤ 122
        · have HY : NameTo s (k + 1) := nameTo_succ hlt hn (at_yes (fun _ => hl) (.inl hl))
          obtain ⟨l1, l2⟩ := hl
          have HY := Lib.hid HY
          clear hn
          go_wp2
          go_round
          case rel => exact ⟨k + 1, by omega, by go_num, HY.out⟩
          case measure => simp [RowKit.intOf]; omega
        · by_cases h0 : k = 0
          · have HN := Lib.hid (nb_not s k hlt (at_no hl (fun h => absurd h0 h)))
            subst h0
            clear hn
            rcases (show s[0].toNat < 97 ∨ 122 < s[0].toNat by omega) with l1 | l1
            · clear hl
              go_wp2
              go_ret
              exact ⟨ret_bool HN.out.symm, rfl⟩
            · clear hl
              have l2 : 97 ≤ s[0].toNat := by omega
              have l3 : decide ((s[0].toNat : Int) ≤ 122) = false := decide_eq_false (by omega)
              go_wp2
              go_ret
              exact ⟨ret_bool HN.out.symm, rfl⟩
          · have hk0 : ((k : Int) == 0) = false := by simp; exact h0
            by_cases hd : 48 ≤ s[k].toNat ∧ s[k].toNat ≤ 57
            · have HY := Lib.hid (nameTo_succ hlt hn (at_yes (fun h => absurd h h0) (.inr hd)))
              obtain ⟨d1, d2⟩ := hd
              clear hn hl h0
              go_wp2
              go_round
              case rel => exact ⟨k + 1, by omega, by go_num, HY.out⟩
              case measure => simp [RowKit.intOf]; omega
            · have HN := Lib.hid (nb_not s k hlt (at_no hl (fun _ => hd)))
              clear hn h0
              rcases (show s[k].toNat < 48 ∨ (57 < s[k].toNat ∧ s[k].toNat < 97) ∨ 122 < s[k].toNat by omega) with l1 | ⟨l1, l2⟩ | l1
              · clear hl hd
                go_wp2
                go_ret
                exact ⟨ret_bool HN.out.symm, rfl⟩
              · clear hl hd
                go_wp2
                go_ret
                exact ⟨ret_bool HN.out.symm, rfl⟩
              · clear hl hd
                have l2 : 97 ≤ s[k].toNat := by omega
                have l3 : decide ((s[k].toNat : Int) ≤ 122) = false := decide_eq_false (by omega)
                go_wp2
                go_ret
                exact ⟨ret_bool HN.out.symm, rfl⟩
      · have hE := Lib.hid (nb_yes s h1 h2 (nameTo_all hn (by omega)))
        go_wp2
        go_ret
        exact ⟨ret_bool hE.out.symm, rfl⟩
  · go_enter Tryd.func69, Tryd.ntmps69
    go_wp2
    all_goals first
      | (go_ret; exact ⟨ret_bool (nb_small s hsz).symm, rfl⟩)
      | (exfalso; omega)
end Go.Proofs.YtfbafjlhdbjgoaaDoor
