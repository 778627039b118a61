/- The walk of QueueLimit. -/
import Derived.Test.YtfbafjlhdbjgoaaDoorQ13
import Derived.OpenShut
namespace Go.Proofs.YtfbafjlhdbjgoaaDoor
set_option linter.unusedVariables false
set_option linter.unusedSimpArgs false
open Go.RowKit Go.Sort
set_option maxRecDepth 100000

def lc (t : Int) : Cmd := ⟨t, 1, 0, false, ⟨#[118]⟩, ⟨#[]⟩, t, 1, none, 0, []⟩
def lf (t : Int) : Cmd := ⟨t, 4, 0, false, ⟨#[]⟩, ⟨#[]⟩, 0, 0, none, 0, []⟩
theorem lc_valid (i : Nat) (h : i < 68) : validB (lc (i : Nat)) = true := by
  have : ∀ i : Fin 68, validB (lc ((i.val : Nat) : Int)) = true := by decide +kernel
  exact this ⟨i, h⟩
theorem lf_valid (i : Nat) (h : i < 60) : validB (lf (i : Nat)) = true := by
  have : ∀ i : Fin 60, validB (lf ((i.val : Nat) : Int)) = true := by decide +kernel
  exact this ⟨i, h⟩
theorem hasTag_iff {its : List QItem} {t : Int} : hasTag its t = true ↔ t ∈ tagsOf its := by
  unfold hasTag tagsOf
  rw [List.any_eq_true, List.mem_map]
  exact ⟨fun ⟨x, hx, e⟩ => ⟨x, hx, by simpa using e⟩, fun ⟨x, hx, e⟩ => ⟨x, hx, by simpa using e⟩⟩
theorem read_before {a b : Cmd} (ha : a.kind = 1) (hb : b.kind = 1) (oa : a.ord = 0) (ob : b.ord = 0) : beforeB a b = false := by
  simp [beforeB, fenceB, overlapB, meetB, ha, hb, oa, ob]
structure Lim (its : List QItem) (k : Nat) : Prop where
  tags : tagsOf its = (List.range k).map fun i => ((i : Nat) : Int)
  reads : ∀ x ∈ its, x.1.kind = 1 ∧ x.1.ord = 0 ∧ x.2 = false
theorem Lim.len {its : List QItem} {k : Nat} (h : Lim its k) : its.length = k := by
  have := congrArg List.length h.tags
  simpa [tagsOf] using this
theorem Lim.push {its : List QItem} {k : Nat} (h : Lim its k) (da : Option Addr) (dc : Nat) : Lim (its ++ [((lc (k : Nat)).re da dc, false)]) (k + 1) := by
  refine ⟨?_, fun x hx => ?_⟩
  · have := h.tags
    unfold tagsOf at *
    rw [List.map_append, this, List.range_succ, List.map_append]
    rfl
  · rcases List.mem_append.1 hx with hx | hx
    · exact h.reads x hx
    · rw [List.mem_singleton] at hx
      subst hx
      exact ⟨rfl, rfl, rfl⟩
theorem Lim.has {its : List QItem} {k i : Nat} (h : Lim its k) : hasTag its (i : Nat) = decide (i < k) := by
  rw [Bool.eq_iff_iff, hasTag_iff, h.tags]
  simp
  exact ⟨fun ⟨a, h1, h2⟩ => by omega, fun h => ⟨i, h, rfl⟩⟩
theorem Lim.elig {its : List QItem} {k : Nat} (h : Lim its k) : eligTags its = tagsOf its := by
  unfold eligTags
  have hl : (tagsOf its).length = its.length := by simp [tagsOf]
  have e := filtTo_all (fun i _ => eligI its i) (tagsOf its) its.length (by omega) (fun i x hx => by
    obtain ⟨y, hy, _, hm⟩ := tag_mem hx
    show eligI its i = true
    rw [eligI_some hy, eligIt, (h.reads y hm).2.2]
    have : (its.take i).any (fun x => beforeB x.1 y.1) = false := by
      rw [List.any_eq_false]
      intro x hx
      have h1 := h.reads x (List.mem_of_mem_take hx)
      have h2 := h.reads y hm
      rw [read_before h1.1 h2.1 h1.2.1 h2.2.1]
      decide
    rw [this]
    rfl)
  rw [e, ← hl, List.take_length]
theorem lim_ok {its : List QItem} {k : Nat} (h : Lim its k) (hk : k < 64) : submitE its (lc (k : Nat)) = 0 := by
  have h1 := lc_valid k (by omega)
  have h2 : hasTag its (lc (k : Nat)).tag = false := by
    show hasTag its (k : Nat) = false
    rw [h.has]; simp
  have h3 := h.len
  unfold submitE
  rw [h1, h2, h3]
  simp; omega
theorem lim_no {its : List QItem} {i : Nat} (h : Lim its 64) (hi : 64 ≤ i) (hi2 : i < 68) : submitE its (lc (i : Nat)) = 7 := by
  have h1 := lc_valid i hi2
  have h2 : hasTag its (lc (i : Nat)).tag = false := by
    show hasTag its (i : Nat) = false
    rw [h.has]; simp; omega
  have h3 := h.len
  unfold submitE
  rw [h1, h2, h3]
  rfl
theorem lim_dup {its : List QItem} {k i : Nat} (h : Lim its k) (hi : i < k) (hi2 : i < 60) : submitE its (lf (i : Nat)) = 10 := by
  have h1 := lf_valid i hi2
  have h2 : hasTag its (lf (i : Nat)).tag = true := by
    show hasTag its (i : Nat) = true
    rw [h.has]; simp [hi]
  unfold submitE
  rw [h1, h2]
  rfl
theorem AW.submitNo {w wc : World} {q m1 m2 n : Nat} {tv : Value} {its : List QItem} (h : AW w wc q m1 m2 n tv its) (c : Cmd) (hc : CmdOk wc c) (hcap : ∀ b o, 0 < c.bs.length → c.da = some ⟨b, o, none⟩ → ¬ QF q m1 m2 tv b) (hn : n < 1000000) (hm : its.length ≤ 1000000) (r : Int) (hr : submitE its c = r) (h0 : r ≠ 0) :
    Calls Tryd.prog 35 #[.pointer (some ⟨q, 0, none⟩), c.val] wc fun e w' => e = .returned (.int .i64 r) ∧ AW w w' q m1 m2 n tv its :=
  (submit_any h.qa c hc hcap hn hm).mono fun e w' ⟨he, ht, hz, _⟩ => ⟨by rw [he, hr], h.turn ht (hz (by rw [hr]; exact h0)) (fun k hk => Or.inl hk)⟩

set_option maxHeartbeats 4000000 in
theorem queueLimit_walk (z : Nat) (tz : Int) (w : World) (hz : z ≤ 255) (hw : (Lit.int .i64 tz).wf = true) : Calls Tryd.prog 14 #[.int .u8 (z : Nat), .int .i64 tz] w fun e w' => e = .returned (.bool true) ∧ RowKit.Below w.heap.size w w' := by
  have hmod : Int.tmod (z : Int) 8 = ((z % 8 : Nat) : Int) := by rw [Int.tmod_eq_emod_of_nonneg (by omega)]; simp
  have hr8 : z % 8 < 8 := Nat.mod_lt _ (by decide)
  generalize z % 8 = r at hmod hr8
  go_enter Tryd.func14, Tryd.ntmps14
  go_wp2_with fail
  refine (awake41_any _).mono ?_
  rintro e w1 ⟨rfl, hB1⟩
  go_wp2_with fail
  refine (AW.new w1).mono ?_
  rintro e w2 ⟨q, m1, m2, rfl, h2⟩
  go_wp2_with fail
  go_loopg [6, 7, 15] (60 + r) (fun g _ _ c wr => ∃ i n tv its, i ≤ 60 + r ∧ g = 60 + r - i ∧ c = .int .i64 (i : Nat) ∧ n ≤ i ∧ Lim its (min i 64) ∧ AW w1 wr q m1 m2 n tv its)
  case atStart => exact ⟨0, 0, _, [], Nat.zero_le _, by simp, rfl, Nat.le_refl _, ⟨rfl, fun x hx => (by cases hx)⟩, h2⟩
  case round =>
    obtain ⟨i, n, tv, its, hi, rfl, rfl, hn, hL, hA⟩ := hrel
    have HL := Lib.hid hL
    have hlen : Hid (its.length = min i 64) := hL.len
    clear hL
    by_cases hir : i < 60 + r
    · have hi2 : (i : Int) < 60 + (r : Int) := by omega
      by_cases h64 : i < 64
      · have hL' : Lim its i := by have := HL.out; rwa [show min i 64 = i by omega] at this
        have C := hA.submit (lc (i : Nat)) (ok_plain rfl (by show (1 : Nat) ≤ _; decide) (by show (0 : Nat) ≤ _; decide)) (fun b o hl => (Nat.lt_irrefl 0 hl).elim) (by omega) (by rw [hlen.out]; omega) (lim_ok hL' h64)
        have hLp := Lib.hid (fun da dc => hL'.push da dc)
        have h64' : (i : Int) < 64 := by omega
        clear hL' hA
        go_wp2_with fail
        refine C.mono ?_
        rintro e w3 ⟨rfl, da, dc, tv', hA'⟩
        have HA := Lib.hid hA'
        clear C hA'
        go_wp2
        go_roundg (60 + r - (i + 1))
        case measure => omega
        case rel => exact ⟨i + 1, n + 1, _, _, by omega, rfl, by go_num, by omega, by rw [show min (i + 1) 64 = i + 1 by omega]; exact hLp.out da dc, HA.out⟩
      · have hL' : Lim its 64 := by have := HL.out; rwa [show min i 64 = 64 by omega] at this
        have C := hA.submitNo (lc (i : Nat)) (ok_plain rfl (by show (1 : Nat) ≤ _; decide) (by show (0 : Nat) ≤ _; decide)) (fun b o hl => (Nat.lt_irrefl 0 hl).elim) (by omega) (by rw [hlen.out]; omega) 7 (lim_no hL' (by omega) (by omega)) (by decide)
        have HL' := Lib.hid hL'
        have h64' : ¬ (i : Int) < 64 := by omega
        clear hL' hA
        go_wp2_with fail
        refine C.mono ?_
        rintro e w3 ⟨rfl, hA'⟩
        have HA := Lib.hid hA'
        clear C hA'
        go_wp2
        go_roundg (60 + r - (i + 1))
        case measure => omega
        case rel => exact ⟨i + 1, n, _, _, by omega, rfl, by go_num, by omega, by rw [show min (i + 1) 64 = 64 by omega]; exact HL'.out, HA.out⟩
    · obtain rfl : i = 60 + r := by omega
      obtain ⟨K, hK⟩ : ∃ K, K = min (60 + r) 64 := ⟨_, rfl⟩
      rw [← hK] at HL hlen
      by_cases hneg : tz < 0
      · have hb := hA.bel
        clear hA hK
        go_wp2_with fail
        go_ret
        exact ⟨rfl, hB1.trans (hb.mono hB1.size)⟩
      · by_cases hbig : 60 ≤ tz
        · have hb := hA.bel
          clear hA hK
          go_wp2_with fail
          go_ret
          exact ⟨rfl, hB1.trans (hb.mono hB1.size)⟩
        · obtain ⟨t, rfl⟩ := Int.eq_ofNat_of_zero_le (show 0 ≤ tz by omega)
          have C := hA.submitNo (lf (t : Nat)) (ok_plain rfl (by show (0 : Nat) ≤ _; decide) (by show (0 : Nat) ≤ _; decide)) (fun b o hl => (Nat.lt_irrefl 0 hl).elim) (by omega) (by rw [hlen.out]; omega) 10 (lim_dup HL.out (by omega) (by omega)) (by decide)
          have hE := HL.out.elig
          have hT : (tagsOf its).length = K := by rw [tagsOf_len, hlen.out]
          have HE := Lib.hid hE
          have HT := Lib.hid hT
          have hcase : (K : Int) = min 64 (60 + (r : Int)) := by omega
          have HK := Lib.hid hK
          clear hA hE hT hK
          go_wp2_with fail
          refine C.mono ?_
          rintro e w3 ⟨rfl, hA3⟩
          have C31 : ∀ W, RowKit.Below w3.heap.size w3 W → Calls Tryd.prog 31 #[.pointer (some ⟨q, 0, none⟩)] W fun e w' => ∃ a c, e = .returned (.slice a K c) ∧ RowKit.Below W.heap.size W w' := fun W hW => by
            have := tags_any (hA3.qa.grow hW) (by rw [hlen.out]; omega)
            unfold RetInts at this
            rw [HT.out] at this
            exact this.mono fun e w' ⟨a, c, h1, _, h3⟩ => ⟨a, c, h1, h3⟩
          have C33 : ∀ W, RowKit.Below w3.heap.size w3 W → Calls Tryd.prog 33 #[.pointer (some ⟨q, 0, none⟩)] W fun e w' => ∃ a c, e = .returned (.slice a K c) ∧ RowKit.Below W.heap.size W w' := fun W hW => by
            have := eligible_any (hA3.qa.grow hW) (by rw [hlen.out]; omega)
            unfold RetInts at this
            rw [HE.out, HT.out] at this
            exact this.mono fun e w' ⟨a, c, h1, _, h3⟩ => ⟨a, c, h1, h3⟩
          have H31 := Lib.hid C31
          have H33 := Lib.hid C33
          have hb := hA3.bel
          clear C C31 C33 hA3
          go_wp2_with fail
          refine (H31.out _ (RowKit.Below.refl _ _)).mono ?_
          rintro e w4 ⟨a4, c4, rfl, hB4⟩
          go_wp2_with fail
          refine (H33.out _ hB4).mono ?_
          rintro e w5 ⟨a5, c5, rfl, hB5⟩
          have hB35 := hB4.trans (hB5.mono hB4.size)
          go_wp2_with fail
          refine (H31.out _ hB35).mono ?_
          rintro e w6 ⟨a6, c6, rfl, hB6⟩
          have hB36 := hB35.trans (hB6.mono hB35.size)
          go_wp2_with fail
          go_ret
          exact ⟨rfl, hB1.trans ((hb.trans (hB36.mono hb.size)).mono hB1.size)⟩
theorem limit_of (z0 z1 : Int) (W : World) (h0 : (Lit.int .u8 z0).wf = true) (h1 : (Lit.int .i64 z1).wf = true) : Calls Tryd.prog 14 #[.int .u8 z0, .int .i64 z1] W fun e w' => e = .returned (.bool true) ∧ RowKit.Below W.heap.size W w' := by
  have hb := bounds_u8 h0
  obtain ⟨z, rfl⟩ := Int.eq_ofNat_of_zero_le hb.1
  exact queueLimit_walk z z1 W (by omega) h1
end Go.Proofs.YtfbafjlhdbjgoaaDoor
