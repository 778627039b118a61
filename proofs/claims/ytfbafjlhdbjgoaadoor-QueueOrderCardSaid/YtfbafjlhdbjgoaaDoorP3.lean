/- The plain law of QueueOrder; a queue beside a list of commands. -/
import Derived.Test.YtfbafjlhdbjgoaaDoorK1
import Derived.Test.YtfbafjlhdbjgoaaDoorP1
namespace Go.Proofs.YtfbafjlhdbjgoaaDoor
set_option linter.unusedVariables false
set_option linter.unusedSimpArgs false
open Go.RowKit Go.Sort
set_option maxRecDepth 100000

/-- A queue of the call's own beside a list of commands that it keeps; the commands' data came in. -/
structure KW (w2 wr : World) (q m1 m2 n : Nat) (tv : Value) (its : List QItem) (out : Value) (ks : List Cmd) : Prop where
  a : AW w2 wr q m1 m2 n tv its
  k : OwnC w2.heap.size w2 out ks wr
  dis : ∀ k, QF q m1 m2 tv k → out.ownBlock ≠ some k
  dk : ∀ c ∈ ks, ∀ b o, 0 < c.bs.length → c.da = some ⟨b, o, none⟩ → b < w2.heap.size
  dq : ∀ x ∈ its, ∀ b o, 0 < x.1.bs.length → x.1.da = some ⟨b, o, none⟩ → out.ownBlock ≠ some b
section
variable {w2 wr w' : World} {q m1 m2 n n' : Nat} {tv tv' out out' : Value} {its its' : List QItem} {ks : List Cmd}
theorem KW.grow (h : KW w2 wr q m1 m2 n tv its out ks) (hb : RowKit.Below wr.heap.size wr w') : KW w2 w' q m1 m2 n tv its out ks := ⟨h.a.grow hb, h.k.grow hb, h.dis, h.dk, h.dq⟩
theorem KW.stepQ (h : KW w2 wr q m1 m2 n tv its out ks) (ht : Turn (QF q m1 m2 tv) wr w') (hq : QAt w' q m1 m2 n' tv' its') (hF : ∀ k, QF q m1 m2 tv' k → QF q m1 m2 tv k ∨ wr.heap.size ≤ k)
    (hnew : ∀ x ∈ its', (∃ y ∈ its, x.1 = y.1) ∨ ∀ b o, x.1.da = some ⟨b, o, none⟩ → wr.heap.size ≤ b) : KW w2 w' q m1 m2 n' tv' its' out ks := by
  refine ⟨h.a.turn ht hq hF, h.k.turn ht h.a.low h.dis (fun c hc b o hl e hk => ?_), fun k hk e => ?_, h.dk, fun x hx b o hl e he => ?_⟩
  · have h1 := h.dk c hc b o hl e
    have h2 := h.a.low b hk
    omega
  · rcases hF k hk with h1 | h1
    · exact h.dis k h1 e
    · have := (h.k.own.lt k e).2; omega
  · rcases hnew x hx with ⟨y, hy, e1⟩ | h1
    · rw [e1] at hl e
      exact h.dq y hy b o hl e he
    · have h2 := h1 b o e
      have := (h.k.own.lt b he).2; omega
theorem KW.stepK (h : KW w2 wr q m1 m2 n tv its out ks) {c : Cmd} (ht : Turn (fun k => out.ownBlock = some k) wr w') (hk : OwnC w2.heap.size w2 out' (ks ++ [c]) w') (hv : ∀ k, out'.ownBlock = some k → out.ownBlock = some k ∨ wr.heap.size ≤ k)
    (hc : ∀ b o, 0 < c.bs.length → c.da = some ⟨b, o, none⟩ → b < w2.heap.size) : KW w2 w' q m1 m2 n tv its out' (ks ++ [c]) := by
  refine ⟨⟨h.a.qa.keep ht (fun k hk hq => h.dis k hq hk) (fun x hx b o hl e => h.dq x hx b o hl e), h.a.bel.trans (ht.below h.a.bel.size (fun k hk => (h.k.own.lt k hk).1)), h.a.low⟩, hk, fun k hq e => ?_, fun d hd => ?_, fun x hx b o hl e he => ?_⟩
  · rcases hv k e with h1 | h1
    · exact h.dis k hq h1
    · have := qf_lt h.a.qa hq; omega
  · rw [List.mem_append] at hd
    rcases hd with hd | hd
    · exact h.dk d hd
    · rw [List.mem_singleton] at hd
      subst hd
      exact hc
  · rcases hv b he with h1 | h1
    · exact h.dq x hx b o hl e h1
    · have := dat_lt (h.a.qa.ok x hx).1.dat hl e; omega
/-- .. while one other block of the call's own is written. -/
theorem KW.stepD (h : KW w2 wr q m1 m2 n tv its out ks) {D : Nat} (ht : Turn (fun k => k = D) wr w') (h0 : w2.heap.size ≤ D) (h1 : ¬ QF q m1 m2 tv D) (h2 : out.ownBlock ≠ some D) (h3 : ∀ x ∈ its, ∀ b o, 0 < x.1.bs.length → x.1.da = some ⟨b, o, none⟩ → b ≠ D) : KW w2 w' q m1 m2 n tv its out ks := by
  refine ⟨⟨h.a.qa.keep ht (fun k hk => by rw [hk]; exact h1) (fun x hx b o hl e hb => h3 x hx b o hl e hb), h.a.bel.trans (ht.below h.a.bel.size (fun k hk => by rw [hk]; exact h0)), h.a.low⟩, h.k.turn ht (fun k hk => by rw [hk]; exact h0) (fun k hk => by rw [hk]; exact h2) (fun c hc b o hl e hb => ?_), h.dis, h.dk, h.dq⟩
  have := h.dk c hc b o hl e
  have hb' : b = D := hb
  omega
end
theorem KW.new {w2 w3 : World} {q m1 m2 : Nat} (h : AW w2 w3 q m1 m2 0 (.slice none 0 0) []) : KW w2 w3 q m1 m2 0 (.slice none 0 0) [] (.slice none 0 0) [] :=
  ⟨h, ⟨World.ownsRow_nil _ _ _ _, h.bel, Nat.le_refl _, fun c hc => (by cases hc)⟩, fun k _ e => (by cases e), fun c hc => (by cases hc), fun x hx => (by cases hx)⟩

def re0 (c : Cmd) : Cmd := c.re none 0
/-- The queue holds those of the commands that are not finished. -/
inductive Rel : List QItem → List Cmd → List Bool → Prop
  | nil : Rel [] [] []
  | live {its : List QItem} {ks : List Cmd} {ds : List Bool} (x : QItem) (c : Cmd) : re0 x.1 = re0 c → Rel its ks ds → Rel (x :: its) (c :: ks) (false :: ds)
  | dead {its : List QItem} {ks : List Cmd} {ds : List Bool} (c : Cmd) : Rel its ks ds → Rel its (c :: ks) (true :: ds)
theorem re0_tag {a b : Cmd} (h : re0 a = re0 b) : a.tag = b.tag := by
  have h1 : (re0 a).tag = (re0 b).tag := congrArg Cmd.tag h
  exact h1
theorem re0_bef {a b c d : Cmd} (h : re0 a = re0 b) (k : re0 c = re0 d) : beforeB a c = beforeB b d := by
  have h1 : beforeB a c = beforeB (re0 a) (re0 c) := rfl
  have h2 : beforeB b d = beforeB (re0 b) (re0 d) := rfl
  rw [h1, h2, h, k]
theorem Rel.len {its : List QItem} {ks : List Cmd} {ds : List Bool} (h : Rel its ks ds) : ds.length = ks.length := by
  induction h with
  | nil => rfl
  | live x c _ _ ih => simp [ih]
  | dead c _ ih => simp [ih]
theorem Rel.mem {its : List QItem} {ks : List Cmd} {ds : List Bool} (h : Rel its ks ds) {x : QItem} (hx : x ∈ its) : ∃ c ∈ ks, re0 x.1 = re0 c := by
  induction h with
  | nil => cases hx
  | live y c e _ ih =>
    rcases List.mem_cons.1 hx with rfl | hx
    · exact ⟨c, List.mem_cons_self, e⟩
    · obtain ⟨d, hd, e2⟩ := ih hx
      exact ⟨d, List.mem_cons_of_mem _ hd, e2⟩
  | dead c _ ih =>
    obtain ⟨d, hd, e2⟩ := ih hx
    exact ⟨d, List.mem_cons_of_mem _ hd, e2⟩
theorem cmds_inj : ∀ {ks : List Cmd}, (ks.map (·.tag)).Nodup → ∀ {a b : Cmd}, a ∈ ks → b ∈ ks → a.tag = b.tag → a = b
  | [], _, _, _, ha, _, _ => by cases ha
  | c :: ks, hn, a, b, ha, hb, e => by
    rw [List.map_cons, List.nodup_cons] at hn
    rcases List.mem_cons.1 ha with ha | ha
    · rcases List.mem_cons.1 hb with hb | hb
      · rw [ha, hb]
      · exact absurd (List.mem_map.2 ⟨b, hb, by rw [← e, ha]⟩) hn.1
    · rcases List.mem_cons.1 hb with hb | hb
      · exact absurd (List.mem_map.2 ⟨a, ha, by rw [e, hb]⟩) hn.1
      · exact cmds_inj hn.2 ha hb e
theorem Rel.start {its : List QItem} {ks : List Cmd} {ds : List Bool} (h : Rel its ks ds) (t : Int) : Rel (setSt its t) ks ds := by
  induction h with
  | nil => exact Rel.nil
  | live x c e _ ih =>
    refine Rel.live _ c ?_ ih
    show re0 (if x.1.tag = t then (x.1, true) else x).1 = _
    split
    · exact e
    · exact e
  | dead c _ ih => exact Rel.dead c ih
theorem Rel.finish {its : List QItem} {ks : List Cmd} {ds : List Bool} (h : Rel its ks ds) (t : Int) : Rel (removed its t) ks (List.zipWith (fun c d => d || c.tag == t) ks ds) := by
  induction h with
  | nil => exact Rel.nil
  | live x c e _ ih =>
    have ht := re0_tag e
    unfold removed at *
    rw [List.filter_cons, List.zipWith_cons_cons]
    by_cases hx : x.1.tag = t
    · have h1 : (x.1.tag != t) = false := by simp [hx]
      have h2 : (false || c.tag == t) = true := by simp [← ht, hx]
      rw [h1, h2]
      exact Rel.dead c ih
    · have h1 : (x.1.tag != t) = true := by simp [hx]
      have h2 : (false || c.tag == t) = false := by simp [← ht, hx]
      rw [h1, h2]
      exact Rel.live x c e ih
  | dead c _ ih => exact Rel.dead c ih
theorem Rel.all : ∀ {its : List QItem} {ks : List Cmd}, its.map (fun x => re0 x.1) = ks.map re0 → Rel its ks (List.replicate ks.length false)
  | [], [], _ => Rel.nil
  | [], c :: ks, h => by cases h
  | x :: its, [], h => by cases h
  | x :: its, c :: ks, h => by
    simp only [List.map_cons, List.cons.injEq] at h
    exact Rel.live x c h.1 (Rel.all h.2)
theorem Rel.free {its : List QItem} {ks : List Cmd} {ds : List Bool} (h : Rel its ks ds) : (ks.map (·.tag)).Nodup → ∀ {L : List QItem} {x : QItem} {R : List QItem} {i k : Nat} {c d : Cmd}, its = L ++ x :: R → (L.any fun y => beforeB y.1 x.1) = false →
    ks[i]? = some c → c.tag = x.1.tag → k < i → ks[k]? = some d → ds[k]? = some false → beforeB d c = false := by
  induction h with
  | nil => intro _ L x R i k c d e; simp at e
  | @live its ks ds x0 c0 e0 hr ih =>
    intro hn L x R i k c d e hL hi ht hk hkd hd
    rw [List.map_cons, List.nodup_cons] at hn
    match i, hk with
    | i + 1, hk =>
      have hi' : ks[i]? = some c := by simpa using hi
      match L with
      | [] =>
        simp only [List.nil_append, List.cons.injEq] at e
        obtain ⟨rfl, _⟩ := e
        exact absurd (List.mem_map.2 ⟨c, List.mem_of_getElem? hi', by rw [ht, re0_tag e0]⟩) hn.1
      | y :: L' =>
        simp only [List.cons_append, List.cons.injEq] at e
        obtain ⟨rfl, e⟩ := e
        simp only [List.any_cons, Bool.or_eq_false_iff] at hL
        match k with
        | 0 =>
          have hd0 : c0 = d := by simpa using hkd
          subst hd0
          obtain ⟨c', hc', e'⟩ := hr.mem (x := x) (by rw [e]; simp)
          have : c' = c := cmds_inj hn.2 hc' (List.mem_of_getElem? hi') (by rw [ht, re0_tag e'])
          subst this
          rw [← re0_bef e0 e']
          exact hL.1
        | k + 1 => exact ih hn.2 e hL.2 hi' ht (Nat.lt_of_succ_lt_succ hk) (by simpa using hkd) (by simpa using hd)
  | @dead its ks ds c0 hr ih =>
    intro hn L x R i k c d e hL hi ht hk hkd hd
    rw [List.map_cons, List.nodup_cons] at hn
    match i, hk with
    | i + 1, hk =>
      match k with
      | 0 => simp at hd
      | k + 1 => exact ih hn.2 e hL (show ks[i]? = some c by simpa using hi) ht (Nat.lt_of_succ_lt_succ hk) (by simpa using hkd) (by simpa using hd)
/-- Before any is finished: the queue holds them all. -/
def All (its : List QItem) (ks : List Cmd) : Prop := its.map (fun x => re0 x.1) = ks.map re0 ∧ (ks.map (·.tag)).Nodup
theorem All.push {its : List QItem} {ks : List Cmd} (h : All its ks) (c : Cmd) (da : Option Addr) (dc : Nat) (ht : hasTag its c.tag = false) : All (its ++ [(c.re da dc, false)]) (ks ++ [c]) := by
  have hk : ks.map (·.tag) = tagsOf its := by
    have := congrArg (List.map (·.tag)) h.1
    rw [List.map_map, List.map_map] at this
    exact this.symm
  refine ⟨by rw [List.map_append, List.map_append, h.1]; rfl, ?_⟩
  rw [List.map_append, List.nodup_append]
  refine ⟨h.2, by simp, fun a ha b hb => ?_⟩
  have hb : b = c.tag := by simpa using hb
  subst hb
  intro e
  rw [hk] at ha
  unfold tagsOf at ha
  rw [List.mem_map] at ha
  obtain ⟨x, hx, e2⟩ := ha
  have : hasTag its c.tag = true := List.any_eq_true.2 ⟨x, hx, by simp [e2, e]⟩
  rw [ht] at this
  cases this
theorem submit_has {its : List QItem} {c : Cmd} (h : submitE its c = 0) : hasTag its c.tag = false := by
  unfold submitE at h
  split at h
  · cases h
  · split at h
    · cases h
    · rename_i h1; simpa using h1
theorem start_ok {its : List QItem} {t : Int} (h : t ∈ eligTags its) : startE its t = 0 := by
  obtain ⟨L, x, R, e, ht, _, _⟩ := mem_eligTags.1 h
  have h1 : hasTag its t = true := List.any_eq_true.2 ⟨x, by rw [e]; simp, by simp [ht]⟩
  unfold startE
  rw [h1]
  simp [h]
theorem finish_ok {its : List QItem} {t : Int} (h : t ∈ startedOf its) : removeE its t true = 0 := by
  unfold startedOf at h
  rw [List.mem_map] at h
  obtain ⟨x, hx, rfl⟩ := h
  rw [List.mem_filter] at hx
  have h1 : hasTag its x.1.tag = true := List.any_eq_true.2 ⟨x, hx.1, by simp⟩
  have h2 : stB its x.1.tag = true := List.any_eq_true.2 ⟨x, hx.1, by simp [hx.2]⟩
  unfold removeE
  rw [h1, h2]
  simp
/-- The flags as the loop that sets them leaves them behind i commands. -/
def updTo (ks : List Cmd) (ds : List Bool) (t : Int) (i : Nat) : List Bool := (List.zipWith (fun c d => d || c.tag == t) ks ds).take i ++ ds.drop i
theorem updTo_zero (ks : List Cmd) (ds : List Bool) (t : Int) : updTo ks ds t 0 = ds := by simp [updTo]
theorem updTo_all {ks : List Cmd} {ds : List Bool} (h : ds.length = ks.length) (t : Int) : updTo ks ds t ks.length = List.zipWith (fun c d => d || c.tag == t) ks ds := by
  unfold updTo
  rw [List.take_of_length_le (by simp [h]), List.drop_of_length_le (by omega), List.append_nil]
theorem updTo_at {ks : List Cmd} {ds : List Bool} {t : Int} {i : Nat} (hl : ds.length = ks.length) (hi : i < ks.length) {b : Bool} (hd : ds[i]? = some b) : (updTo ks ds t i)[i]? = some b := by
  unfold updTo
  rw [List.getElem?_append_right (by simp; omega)]
  simp only [List.length_take, List.length_zipWith]
  rw [List.getElem?_drop, show i + (i - min i (min ks.length ds.length)) = i by omega]
  exact hd
theorem updTo_succ {ks : List Cmd} {ds : List Bool} {t : Int} {i : Nat} (hl : ds.length = ks.length) {c : Cmd} {b : Bool} (hc : ks[i]? = some c) (hd : ds[i]? = some b) : (updTo ks ds t i).set i (b || c.tag == t) = updTo ks ds t (i + 1) := by
  have hi : i < ks.length := (List.getElem?_eq_some_iff.1 hc).1
  have hz : (List.zipWith (fun c d => d || c.tag == t) ks ds)[i]? = some (b || c.tag == t) := by rw [List.getElem?_zipWith, hc, hd]
  unfold updTo
  rw [List.set_append, if_neg (by simp; omega)]
  have e1 : i - ((List.zipWith (fun c d => d || c.tag == t) ks ds).take i).length = 0 := by simp; omega
  obtain ⟨hdl, hdb⟩ := List.getElem?_eq_some_iff.1 hd
  rw [e1, List.drop_eq_getElem_cons hdl, List.set_cons_zero, List.take_add_one, hz]
  simp
theorem updTo_len {ks : List Cmd} {ds : List Bool} {t : Int} {i : Nat} (hl : ds.length = ks.length) (hi : i ≤ ks.length) : (updTo ks ds t i).length = ks.length := by
  unfold updTo
  rw [List.length_append, List.length_take, List.length_zipWith, List.length_drop]
  omega
end Go.Proofs.YtfbafjlhdbjgoaaDoor
