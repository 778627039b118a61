/- The reference queue: Get, Tag, Start. -/
import Derived.Test.YtfbafjlhdbjgoaaDoorR2
import Derived.Test.YtfbafjlhdbjgoaaDoorQ17
import Derived.Deep.RegionLaw
namespace Go.Proofs.YtfbafjlhdbjgoaaDoor
set_option linter.unusedVariables false
set_option linter.unusedSimpArgs false
open Go.RowKit Go.Sort
set_option maxRecDepth 100000

theorem RAt.keep {F : Nat → Prop} {w w' : World} {r : Nat} {sv : Value} {its : List QItem} (h : RAt w r sv its) (ht : Turn F w w') (hF : ∀ k, F k → ¬ RF r sv k)
    (hD : ∀ x ∈ its, ∀ b o, 0 < x.1.bs.length → x.1.da = some ⟨b, o, none⟩ → ¬ F b) : RAt w' r sv its :=
  ⟨(ht.block r h.rlt (fun hf => hF r hf (Or.inl rfl))).trans h.box, ownsRow_block h.row (fun k hk => ht.block k (h.rows hk) (fun hf => hF k hf (Or.inr hk))), h.sq,
    fun x hx => ⟨(h.ok x hx).1.turn ht (fun b o hl e => hD x hx b o hl e), (h.ok x hx).2⟩, h.apart, h.nod⟩
theorem find_idx {its : List QItem} {tag : Int} {x : QItem} (h : its.find? (fun x => x.1.tag == tag) = some x) : ∃ k : Nat, its[k]? = some x ∧ x.1.tag = tag ∧ idxOf (tagsOf its) tag = k := by
  rw [List.find?_eq_some_iff_getElem] at h
  obtain ⟨hp, k, hk, e, hj⟩ := h
  have hx : its[k]? = some x := by rw [List.getElem?_eq_getElem hk, e]
  have ht : x.1.tag = tag := by simpa using hp
  refine ⟨k, hx, ht, idxOf_hit (by rw [tagsOf_at hx, ht]) (fun hm => ?_)⟩
  obtain ⟨j, hj1⟩ := List.mem_iff_getElem?.1 hm
  rw [List.getElem?_take] at hj1
  split at hj1
  · rename_i hjk
    have hjl : j < its.length := by omega
    rw [tagsOf_at (List.getElem?_eq_getElem hjl)] at hj1
    injection hj1 with hj1
    have := hj j hjk
    simp [hj1] at this
  · cases hj1
theorem find_no {its : List QItem} {tag : Int} (h : its.find? (fun x => x.1.tag == tag) = none) : idxOf (tagsOf its) tag = -1 := by
  refine idxOf_no fun hm => ?_
  unfold tagsOf at hm
  rw [List.mem_map] at hm
  obtain ⟨x, hx, e⟩ := hm
  exact absurd (List.find?_eq_none.1 h x hx) (by simp [e])

/-- What the reference's Get hands back. -/
def RGet (its : List QItem) (tag : Int) (e : Ending) : Prop :=
  match its.find? (fun x => x.1.tag == tag) with
  | none => e = .returned (.tuple #[cmdz.val, .bool false])
  | some x => e = .returned (.tuple #[x.1.val, .bool true])
theorem result_pair48 {w2 : World} {g : Nat} {c : Cmd} {tmps : Array Value} {b : Bool} (h1 : tmps.getD 4 undef = .pointer (some ⟨g, 0, none⟩)) (h2 : tmps.getD 5 undef = .bool b) (r : w2.heap[g]? = some (.cells c.arr 24 (0, 0))) :
    (results Tryd.f48 tmps).run Tryd.prog w2 = .ok (.tuple #[c.val, .bool b]) w2 := by
  rw [results_cell_tmp Tryd.results48, h1, h2]
  simp [asAddr, run_loadVar_row (P := Tryd.prog) w2 g 24 24 c.arr (0, 0) _ r Tryd.underlying24 rfl (by kernel_rfl)]

set_option maxHeartbeats 4000000 in
theorem rGet_any {w : World} {r : Nat} {sv : Value} {its : List QItem} (h : RAt w r sv its) (tag : Int) (hm : its.length ≤ 1000000) :
    Calls Tryd.prog 48 #[.pointer (some ⟨r, 0, none⟩), .int .i64 tag] w fun e w' => RGet its tag e ∧ RowKit.Below w.heap.size w w' := by
  have hb := below_box w cmdz.arr 24
  have CK := find_any (h.grow hb) tag hm
  go_enter Tryd.func48, Tryd.ntmps48
  go_wp2_with fail
  refine CK.mono ?_
  rintro e w1 ⟨rfl, hB1⟩
  have hBw := hb.trans (hB1.mono hb.size)
  have e0 : w1.heap[w.heap.size]? = some (.cells cmdz.arr 24 (0, 0)) := (hB1.block w.heap.size (by simp)).trans (heap_alloc_new w _)
  have HE := Lib.hid e0
  have hs1 : w.heap.size < w1.heap.size := by have := hB1.size; simp at this; omega
  have h1 := h.grow hBw
  have z0 : w1.cell? ⟨w.heap.size, 0, none⟩ = some (.int .i64 0) := by rw [World.cell?, e0]; rfl
  have z1 : w1.cell? ⟨w.heap.size, 1, none⟩ = some (.int .i64 0) := by rw [World.cell?, e0]; rfl
  have z2 : w1.cell? ⟨w.heap.size, 2, none⟩ = some (.int .i64 0) := by rw [World.cell?, e0]; rfl
  have z3 : w1.cell? ⟨w.heap.size, 3, none⟩ = some (.bool false) := by rw [World.cell?, e0]; rfl
  have z4 : w1.cell? ⟨w.heap.size, 4, none⟩ = some (.string ⟨#[]⟩) := by rw [World.cell?, e0]; rfl
  have z5 : w1.cell? ⟨w.heap.size, 5, none⟩ = some (.string ⟨#[]⟩) := by rw [World.cell?, e0]; rfl
  have z6 : w1.cell? ⟨w.heap.size, 6, none⟩ = some (.int .i64 0) := by rw [World.cell?, e0]; rfl
  have z7 : w1.cell? ⟨w.heap.size, 7, none⟩ = some (.int .i64 0) := by rw [World.cell?, e0]; rfl
  have z8 : w1.cell? ⟨w.heap.size, 8, none⟩ = some (.slice none 0 0) := by rw [World.cell?, e0]; rfl
  have f1 : ∀ j, w1.frozen? ⟨w.heap.size, j, none⟩ = false := fun j => by simp [World.frozen?, e0]
  cases hf : its.find? (fun x => x.1.tag == tag) with
  | none =>
    have HK : Hid (idxOf (tagsOf its) tag = -1) := find_no hf
    have HG : Hid (RGet its tag (.returned (.tuple #[cmdz.val, .bool false]))) := by show RGet _ _ _; unfold RGet; rw [hf]
    rw [HK.out]
    clear e0 hb hB1 CK hf h h1
    go_wp2_with fail
    refine bodyPost_ret (v := .tuple #[cmdz.val, .bool false]) (result_pair48 (c := cmdz) rfl rfl (row_of_sets (c := cmdz) HE.out)) rfl ⟨HG.out, below_sets (c := cmdz) hBw (Nat.le_refl _)⟩
  | some x =>
    obtain ⟨k, hx, hxt, hidx⟩ := find_idx hf
    have HK := Lib.hid hidx
    have HG : Hid (RGet its tag (.returned (.tuple #[x.1.val, .bool true]))) := by show RGet _ _ _; unfold RGet; rw [hf]
    rw [HK.out]
    have hkl : k < its.length := (List.getElem?_eq_some_iff.1 hx).1
    obtain ⟨a, c, rfl, hI⟩ := h1.items
    obtain ⟨b, o, rfl, hcs⟩ := hI (by omega)
    have r0 := h1.r0
    obtain ⟨⟨t0, t1, t2, t3, t4, t5, t6, t7, t8⟩, _⟩ := hcs k x hx
    clear e0 hb hB1 CK hf h h1 hI hcs hx hxt hidx
    go_wp2_with fail
    refine bodyPost_ret (v := .tuple #[x.1.val, .bool true]) (result_pair48 (c := x.1) rfl rfl (row_of_sets (c := x.1) HE.out)) rfl ⟨HG.out, below_sets (c := x.1) hBw (Nat.le_refl _)⟩

/-- The tag that a call concerns. -/
def tagAt (its : List QItem) (K : Int) : Int := if K < 0 ∨ its.length = 0 then K else (tagsOf its).getD (K.toNat % its.length) 0
@[reducible] def actVal (kind K : Int) (c : Cmd) : Value := .agg #[.int .i64 kind, .int .i64 K, .int .i64 c.tag, .int .i64 c.kind, .int .i64 c.ord, .bool c.force, .string c.vol, .string c.oth, .int .i64 c.pos, .int .i64 c.len, .slice c.da c.bs.length c.dc]
set_option maxHeartbeats 4000000 in
theorem rTag_any {w : World} {r : Nat} {sv : Value} {its : List QItem} (h : RAt w r sv its) (kind K : Int) (c : Cmd) (hm : its.length ≤ 1000000) :
    Calls Tryd.prog 47 #[.pointer (some ⟨r, 0, none⟩), actVal kind K c] w fun e w' => e = .returned (.int .i64 (tagAt its K)) ∧ RowKit.Below w.heap.size w w' := by
  have hb : RowKit.Below w.heap.size w (w.alloc (.cells #[.int .i64 kind, .int .i64 K, .int .i64 c.tag, .int .i64 c.kind, .int .i64 c.ord, .bool c.force, .string c.vol, .string c.oth, .int .i64 c.pos, .int .i64 c.len, .slice c.da c.bs.length c.dc] 44)) := below_box w _ 44
  have h1 := h.grow hb
  obtain ⟨a, cc, rfl, hI⟩ := h1.items
  have r0 := h.r0
  have hrl := h.rlt
  have HI := Lib.hid hI
  have H1 := Lib.hid h1
  have HB := Lib.hid hb
  have hrn : r ≠ w.heap.size := by omega
  have r01 := h1.r0
  clear h h1 hI hb
  by_cases hK : K < 0
  · have HE : Hid (tagAt its K = K) := by show tagAt its K = K; simp [tagAt, hK]
    clear r01
    go_enter Tryd.func47, Tryd.ntmps47
    go_wp2
    go_ret
    exact ⟨ret_int HE.out.symm, HB.out⟩
  · by_cases hl : its.length = 0
    · have HE : Hid (tagAt its K = K) := by show tagAt its K = K; simp [tagAt, hl]
      rw [hl] at r0
      clear r01 hl
      go_enter Tryd.func47, Tryd.ntmps47
      go_wp2
      go_ret
      exact ⟨ret_int HE.out.symm, HB.out⟩
    · obtain ⟨n, rfl⟩ := Int.eq_ofNat_of_zero_le (show 0 ≤ K by omega)
      obtain ⟨b, o, rfl, hcs⟩ := HI.out (by omega)
      have hj : n % its.length < its.length := Nat.mod_lt _ (by omega)
      obtain ⟨x, hx⟩ : ∃ x, its[n % its.length]? = some x := ⟨_, List.getElem?_eq_getElem hj⟩
      have hmod : Int.tmod (n : Int) (its.length : Int) = ((n % its.length : Nat) : Int) := by rw [Int.tmod_eq_emod_of_nonneg (Int.natCast_nonneg n)]; simp
      have HE : Hid (tagAt its (n : Int) = x.1.tag) := by
        show tagAt its (n : Int) = x.1.tag
        have := tagsOf_at hx
        simp only [tagAt, hK, hl, or_self, if_false, Int.toNat_natCast]
        exact getD_of this
      have g0 := cell_regrown (hcs _ x hx).1.1
      have g1 := cell_regrown r01
      have g2 := cell_regrown (new_row_cell w #[.int .i64 kind, .int .i64 (n : Int), .int .i64 c.tag, .int .i64 c.kind, .int .i64 c.ord, .bool c.force, .string c.vol, .string c.oth, .int .i64 c.pos, .int .i64 c.len, .slice c.da c.bs.length c.dc] 44 1 _ rfl)
      have hl2 : ((its.length : Int) == 0) = false := beq_eq_false_iff_ne.2 (by omega)
      have hl3 : ¬ (its.length : Int) = 0 := by omega
      clear hcs hx r01
      generalize n % its.length = j at hj hmod g0
      go_enter Tryd.func47, Tryd.ntmps47
      go_wp2_with fail
      refine wp_region_quiet_below (by kernel_rfl) (by kernel_rfl) ?_
      repeat (go_big_quiet_step (fail))
      refine wpQuiet_nil ?_
      intro _ hw'
      obtain ⟨⟨d, os⟩, hw''⟩ := hw'
      subst hw''
      have hB2 := HB.out.trans ((below_regrown (w.alloc (.cells #[.int .i64 kind, .int .i64 (n : Int), .int .i64 c.tag, .int .i64 c.kind, .int .i64 c.ord, .bool c.force, .string c.vol, .string c.oth, .int .i64 c.pos, .int .i64 c.len, .slice c.da c.bs.length c.dc] 44)) d os).mono HB.out.size)
      generalize grow (redrawn (w.alloc (.cells #[.int .i64 kind, .int .i64 (n : Int), .int .i64 c.tag, .int .i64 c.kind, .int .i64 c.ord, .bool c.force, .string c.vol, .string c.oth, .int .i64 c.pos, .int .i64 c.len, .slice c.da c.bs.length c.dc] 44)) d) os = w2 at hB2 ⊢
      clear g0 g1 g2
      go_wp2
      go_ret
      exact ⟨ret_int HE.out.symm, hB2⟩


theorem split_at {its : List QItem} {k : Nat} {x : QItem} (hx : its[k]? = some x) : its = its.take k ++ x :: its.drop (k + 1) := by
  obtain ⟨hk, e⟩ := List.getElem?_eq_some_iff.1 hx
  have := (List.take_append_drop k its).symm
  rw [List.drop_eq_getElem_cons hk, e] at this
  exact this
theorem split_tag {its : List QItem} {k : Nat} {x : QItem} (h : (tagsOf its).Nodup) (hx : its[k]? = some x) : (∀ y ∈ its.take k, y.1.tag ≠ x.1.tag) ∧ ∀ y ∈ its.drop (k + 1), y.1.tag ≠ x.1.tag := by
  have e := split_at hx
  rw [e] at h
  unfold tagsOf at h
  rw [List.map_append, List.map_cons, List.nodup_append] at h
  obtain ⟨_, h2, h3⟩ := h
  refine ⟨fun y hy => ?_, fun y hy e => ?_⟩
  · exact h3 _ (List.mem_map_of_mem (f := fun x : QItem => x.1.tag) hy) _ (List.mem_cons_self)
  · rw [List.nodup_cons] at h2
    exact h2.1 (List.mem_map.2 ⟨y, hy, e⟩)
theorem setSt_split {A B : List QItem} {x : QItem} (hA : ∀ y ∈ A, y.1.tag ≠ x.1.tag) (hB : ∀ y ∈ B, y.1.tag ≠ x.1.tag) : setSt (A ++ x :: B) x.1.tag = A ++ (x.1, true) :: B := by
  have key : ∀ L : List QItem, (∀ y ∈ L, y.1.tag ≠ x.1.tag) → setSt L x.1.tag = L := fun L hL => by
    unfold setSt
    conv => rhs; rw [← List.map_id L]
    exact List.map_congr_left fun y hy => by simp [hL y hy]
  have h1 := key A hA
  have h2 := key B hB
  unfold setSt at *
  rw [List.map_append, List.map_cons, h1, h2]
  simp
theorem removed_split {A B : List QItem} {x : QItem} (hA : ∀ y ∈ A, y.1.tag ≠ x.1.tag) (hB : ∀ y ∈ B, y.1.tag ≠ x.1.tag) : removed (A ++ x :: B) x.1.tag = A ++ B := by
  have key : ∀ L : List QItem, (∀ y ∈ L, y.1.tag ≠ x.1.tag) → removed L x.1.tag = L := fun L hL => by
    unfold removed
    exact List.filter_eq_self.2 fun y hy => by simpa using hL y hy
  have h1 := key A hA
  have h2 := key B hB
  unfold removed at *
  rw [List.filter_append, List.filter_cons, h1, h2]
  simp
theorem hasTag_some {its : List QItem} {tag : Int} {x : QItem} (h : its.find? (fun x => x.1.tag == tag) = some x) : hasTag its tag = true := by
  rw [← find_hasTag, h]; rfl
theorem hasTag_none {its : List QItem} {tag : Int} (h : its.find? (fun x => x.1.tag == tag) = none) : hasTag its tag = false := by
  rw [← find_hasTag, h]; rfl
theorem mem_filtTo {p : Nat → Int → Bool} {xs : List Int} {k : Nat} {t : Int} : t ∈ filtTo p xs k ↔ ∃ i, i < k ∧ p i (xs.getD i 0) = true ∧ xs.getD i 0 = t := by
  unfold filtTo
  simp only [List.mem_map, List.mem_filter, List.mem_range]
  constructor
  · rintro ⟨i, ⟨h1, h2⟩, h3⟩; exact ⟨i, h1, h2, h3⟩
  · rintro ⟨i, h1, h2, h3⟩; exact ⟨i, ⟨h1, h2⟩, h3⟩
theorem nodup_idx {its : List QItem} (h : (tagsOf its).Nodup) {i j : Nat} {x y : QItem} (hx : its[i]? = some x) (hy : its[j]? = some y) (e : x.1.tag = y.1.tag) : i = j := by
  have h1 := tagsOf_at hx
  have h2 := tagsOf_at hy
  obtain ⟨hi, e1⟩ := List.getElem?_eq_some_iff.1 h1
  obtain ⟨hj, e2⟩ := List.getElem?_eq_some_iff.1 h2
  exact (List.getElem_inj h).1 (by rw [e1, e2, e])
theorem mem_elig {its : List QItem} (h : (tagsOf its).Nodup) {k : Nat} {x : QItem} (hx : its[k]? = some x) : x.1.tag ∈ eligTags its ↔ eligIt its k x = true := by
  unfold eligTags
  rw [mem_filtTo]
  constructor
  · rintro ⟨i, hi, hp, he⟩
    obtain ⟨y, hy⟩ : ∃ y, its[i]? = some y := ⟨_, List.getElem?_eq_getElem hi⟩
    have := getD_of (d := (0 : Int)) (tagsOf_at hy)
    rw [this] at he
    have hik := nodup_idx h hy hx he
    subst hik
    rw [hx] at hy
    injection hy with hy
    subst hy
    rw [← eligI_some hx]; exact hp
  · intro he
    exact ⟨k, (List.getElem?_eq_some_iff.1 hx).1, by rw [eligI_some hx]; exact he, getD_of (tagsOf_at hx)⟩
theorem startE_at {its : List QItem} {tag : Int} (h : (tagsOf its).Nodup) {k : Nat} {x : QItem} (hx : its[k]? = some x) (ht : x.1.tag = tag) : startE its tag = if eligIt its k x = true then 0 else 8 := by
  have h1 : hasTag its tag = true := List.any_eq_true.2 ⟨x, List.mem_of_getElem? hx, by simp [ht]⟩
  unfold startE
  rw [h1, ← ht]
  simp only [Bool.true_eq_false, if_false, mem_elig h hx]
  by_cases he : eligIt its k x = true
  · simp [he]
  · simp [he]
theorem itFlat_set {A B : List QItem} {x : QItem} (b : Bool) : itFlat (A ++ (x.1, b) :: B) = (itFlat (A ++ x :: B)).set (A.length * 10 + 9) (.bool b) := by
  have e1 : itFlat (A ++ (x.1, b) :: B) = itFlat A ++ (itC (x.1, b) ++ itFlat B) := by simp [itFlat]
  have e2 : itFlat (A ++ x :: B) = itFlat A ++ (itC x ++ itFlat B) := by simp [itFlat]
  rw [e1, e2, List.set_append, if_neg (by rw [itFlat_len]; omega), itFlat_len, show A.length * 10 + 9 - A.length * 10 = 9 by omega, List.set_append, if_pos (by rw [itC_len]; omega)]
  rfl
theorem Turn.of_grown {w w' : World} {g : Nat} (h : w.grownBy w' (some g)) : Turn (fun k => k = g) w w' :=
  ⟨h.os, h.tape, h.output, h.size, fun k hk hne => h.block k hk (fun e => hne (Option.some.inj e))⟩

set_option maxHeartbeats 4000000 in
theorem rStart_any {w : World} {r : Nat} {sv : Value} {its : List QItem} (h : RAt w r sv its) (tag : Int) (hm : its.length ≤ 1000000) :
    Calls Tryd.prog 56 #[.pointer (some ⟨r, 0, none⟩), .int .i64 tag] w fun e w' => e = .returned (.int .i64 (startE its tag)) ∧ Turn (RF r sv) w w' ∧ (startE its tag ≠ 0 → RAt w' r sv its) ∧ (startE its tag = 0 → RAt w' r sv (setSt its tag)) := by
  have CF := Lib.hid (find_any h tag hm)
  have H := Lib.hid h
  clear h
  go_enter Tryd.func56, Tryd.ntmps56
  go_wp2_with fail
  refine CF.out.mono ?_
  rintro e w1 ⟨rfl, hB1⟩
  clear CF
  cases hf : its.find? (fun x => x.1.tag == tag) with
  | none =>
    have HK : Hid (idxOf (tagsOf its) tag = -1) := find_no hf
    have HE : Hid (startE its tag = 9) := by show startE its tag = 9; simp [startE, hasTag_none hf]
    rw [HK.out]
    clear hf
    go_wp2
    go_ret
    exact ⟨ret_int HE.out.symm, Turn.of_below hB1, fun _ => H.out.grow hB1, fun h0 => by rw [HE.out] at h0; cases h0⟩
  | some x =>
    obtain ⟨k, hx, hxt, hidx⟩ := find_idx hf
    have HK := Lib.hid hidx
    have HX := Lib.hid hx
    have HXT := Lib.hid hxt
    have hkl : k < its.length := (List.getElem?_eq_some_iff.1 hx).1
    have CE := Lib.hid (relig_any (H.out.grow hB1) hx hm)
    rw [HK.out]
    clear hf hx hxt hidx
    go_wp2_with fail
    refine CE.out.mono ?_
    rintro e w2 ⟨rfl, hB2⟩
    have hB := hB1.trans (hB2.mono hB1.size)
    clear CE
    cases he : eligIt its k x with
    | false =>
      have HE : Hid (startE its tag = 8) := by show startE its tag = 8; rw [startE_at H.out.nod HX.out HXT.out, he]; rfl
      clear he
      go_wp2
      go_ret
      exact ⟨ret_int HE.out.symm, Turn.of_below hB, fun _ => H.out.grow hB, fun h0 => by rw [HE.out] at h0; cases h0⟩
    | true =>
      have HE : Hid (startE its tag = 0) := by show startE its tag = 0; rw [startE_at H.out.nod HX.out HXT.out, he]; rfl
      have h2 := H.out.grow hB
      obtain ⟨hl, hh⟩ := h2.row
      obtain ⟨g, cap, cur, rfl, hb, hh, hc, hmc, ht⟩ := hh.resolve_left (fun hh => by have := itFlat_len its; rw [hh.2] at this; simp at this; omega)
      have r0 := h2.r0
      have g9 : w2.cell? ⟨g, k * 10 + 9, none⟩ = some (.bool x.2) := by
        have := World.ownsRow.cellAt (w := w2) (base := 0) (e := 77) (size := 10) (g := g) (n := its.length) (cap := cap) (xs := itFlat its) h2.row (k * 10 + 9) (by omega)
        rw [this, itFlat_at its k 9 x HX.out (by omega)]
        rfl
      have f9 : w2.frozen? ⟨g, k * 10 + 9, none⟩ = false := by simp [World.frozen?, hh]
      have hrg : r ≠ g := fun e => h2.sq (by rw [e]; rfl)
      have hfin : Hid (RAt (w2.setCell ⟨g, k * 10 + 9, none⟩ (.bool true)) r (.slice (some ⟨g, 0, none⟩) its.length cap) (setSt its tag) ∧ Turn (RF r (.slice (some ⟨g, 0, none⟩) its.length cap)) w (w2.setCell ⟨g, k * 10 + 9, none⟩ (.bool true))) := by
        obtain ⟨hr', hgr⟩ := h2.row.stored (k * 10 + 9) (.bool true)
        have hT := Turn.of_grown hgr
        obtain ⟨hA, hB'⟩ := split_tag h2.nod HX.out
        have hsplit := split_at HX.out
        have hset : setSt its tag = its.take k ++ (x.1, true) :: its.drop (k + 1) := by
          conv => lhs; rw [hsplit, ← HXT.out]
          exact setSt_split hA hB'
        have hflat : itFlat (setSt its tag) = (itFlat its).set (k * 10 + 9) (.bool true) := by
          rw [hset, itFlat_set (x := x), ← hsplit, List.length_take, Nat.min_eq_left (by omega)]
        have hlen : (setSt its tag).length = its.length := by simp [setSt]
        refine ⟨⟨?_, ?_, h2.sq, ?_, ?_, by rw [setSt_tags]; exact h2.nod⟩, ?_⟩
        · exact (hT.block r h2.rlt hrg).trans h2.box
        · rw [hlen, hflat]; exact hr'
        · intro y hy
          unfold setSt at hy
          rw [List.mem_map] at hy
          obtain ⟨z, hz, rfl⟩ := hy
          have h3 := h2.ok z hz
          have h4 : CmdOk (w2.setCell ⟨g, k * 10 + 9, none⟩ (.bool true)) z.1 := h3.1.turn hT (fun b o hl e hb => h2.apart z hz b o hl e (Or.inr (by rw [hb]; rfl)))
          split
          · exact ⟨h4, h3.2⟩
          · exact ⟨h4, h3.2⟩
        · intro y hy
          unfold setSt at hy
          rw [List.mem_map] at hy
          obtain ⟨z, hz, rfl⟩ := hy
          have h3 := h2.apart z hz
          split
          · exact h3
          · exact h3
        · exact (Turn.of_below (F := RF r (.slice (some ⟨g, 0, none⟩) its.length cap)) hB).trans hT (fun i _ e => Or.inr (by rw [e]; rfl))
      clear he h2 hh ht hl
      go_wp2
      go_ret
      exact ⟨ret_int HE.out.symm, hfin.out.2, fun h0 => absurd HE.out h0, fun _ => hfin.out.1⟩

end Go.Proofs.YtfbafjlhdbjgoaaDoor
