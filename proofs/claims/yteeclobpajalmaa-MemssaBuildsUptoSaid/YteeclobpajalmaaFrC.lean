/- Dominance frontiers, the plain side: what going up from the predecessors marks. No condition. | slices.Sort[[]int,int]: the library's own contract, laid at this program; at a row that is sorted. No condition but sizes. | Rows of numbers, built by append, their own blocks from S on. No condition. | dom.Frontier. No condition but sizes. -/
import Derived.Test.YteeclobpajalmaaDoJ
import Derived.Test.YteeclobpajalmaaCq
import Derived.Shelf.SortM.Plain
import Derived.Shelf.SortM.SortNone
import Derived.Test.YteeclobpajalmaaDoN
import Derived.Test.YteeclobpajalmaaGrE
namespace Go.Proofs.Yteeclobpajalmaa
set_option linter.unusedVariables false
set_option linter.unusedSimpArgs false

section
variable {sc : Int → List Int} {o : List Int} {n : Nat} {l : List Int} {a b c t x v p : Int}
/-- the nearest dominator, in words of dominance -/
theorem up_parts (I : IdomOk sc o n l) (O : OrderOk n sc o) (hn : 0 < n) {xn : Nat} (hx : (xn : Int) ∈ o) (h0 : xn ≠ 0) (hv : l[xn]? = some v) :
    v ∈ o ∧ o.idxOf v < o.idxOf (xn : Int) ∧ (∀ t, Dom sc o t xn ↔ t = xn ∨ Dom sc o t v) ∧ ¬ Dom sc o xn v ∧ Dom sc o v xn := by
  obtain ⟨h1, h2⟩ := O.bound _ hx
  obtain ⟨u, h3, h4, h5, h6, h7, h8⟩ := I.some_ xn (by omega) hx h0
  rw [hv] at h3
  cases h3
  have hd : Dom sc o v xn := ⟨h4, hx, h7⟩
  refine ⟨h4, h6, fun t => ⟨fun h => ?_, fun h => ?_⟩, fun h => h5 (Dom.anti_ I O hn hd h), hd⟩
  · by_cases e : t = xn
    · exact .inl e
    · exact .inr ⟨h.1, h4, h8 t e h.2.2⟩
  · rcases h with rfl | h
    · exact Dom.refl_ hx
    · exact h.trans_ hd
theorem dom_zero_only (O : OrderOk n sc o) (hn : 0 < n) (I : IdomOk sc o n l) (h : Dom sc o t 0) : t = 0 := by
  have h0 : Dom sc o 0 t := ⟨(ord_ok O hn).zero, h.1, fun h => rchW_zero h⟩
  exact Dom.anti_ I O hn h h0
theorem pred_dom (I : IdomOk sc o n l) (O : OrderOk n sc o) {bn : Nat} (hb : (bn : Int) ∈ o) (h0 : bn ≠ 0) (hv : l[bn]? = some v) (hp : p ∈ o) (hs : (bn : Int) ∈ sc p) : Dom sc o v p := by
  obtain ⟨h1, h2⟩ := O.bound _ hb
  obtain ⟨u, h3, h4, h5, h6, h7, h8⟩ := I.some_ bn (by omega) hb h0
  rw [hv] at h3
  cases h3
  exact ⟨h4, hp, fun hr => h7 (.step hr hs (fun e => h5 e.symm))⟩
/-- going up from predecessor p of b, so far: at x -/
def WalkS (sc : Int → List Int) (o l : List Int) (b : Nat) (p x : Int) : Prop :=
  (x = -1 ∧ b = 0) ∨ (x ∈ o ∧ Dom sc o x p ∧ (b = 0 ∨ ∀ u, l[b]? = some u → Dom sc o u x))
/-- what has been marked on the way -/
def VisS (sc : Int → List Int) (o : List Int) (p x t : Int) : Prop := Dom sc o t p ∧ (x = -1 ∨ ¬ Dom sc o t x)
theorem walk_start (I : IdomOk sc o n l) (O : OrderOk n sc o) {b : Nat} (hb : (b : Int) ∈ o) (hp : p ∈ o) (hs : (b : Int) ∈ sc p) : WalkS sc o l b p p := by
  refine .inr ⟨hp, Dom.refl_ hp, ?_⟩
  by_cases h0 : b = 0
  · exact .inl h0
  · exact .inr fun u hu => pred_dom I O hb h0 hu hp hs
theorem vis_start (O : OrderOk n sc o) (hp : p ∈ o) : ¬ VisS sc o p p t := by
  rintro ⟨h1, h2 | h2⟩
  · have := O.bound _ hp; omega
  · exact h2 h1
theorem walk_step (I : IdomOk sc o n l) (O : OrderOk n sc o) (hn : 0 < n) {b xn : Nat} (h : WalkS sc o l b p xn) (hgo : b = 0 ∨ l[b]? ≠ some (xn : Int)) (hub : ∃ u, l[b]? = some u) (hv : l[xn]? = some v) :
    WalkS sc o l b p v ∧ ∀ t, VisS sc o p v t ↔ (VisS sc o p xn t ∨ t = xn) := by
  rcases h with ⟨h1, -⟩ | ⟨h1, h2, h3⟩
  · omega
  by_cases h0 : xn = 0
  · subst h0
    have hz := I.none_ 0 (by omega) (.inr rfl)
    rw [hv] at hz
    cases hz
    have hb0 : b = 0 := by
      rcases h3 with h3 | h3
      · exact h3
      · obtain ⟨u, hu⟩ := hub
        rcases hgo with h | h
        · exact h
        · exact absurd (by rw [hu, dom_zero_only O hn I (h3 u hu)]; rfl) h
    refine ⟨.inl ⟨rfl, hb0⟩, fun t => ⟨fun h => ?_, fun h => ?_⟩⟩
    · by_cases e : t = 0
      · exact .inr e
      · exact .inl ⟨h.1, .inr fun hd => e (dom_zero_only O hn I hd)⟩
    · rcases h with h | h
      · exact ⟨h.1, .inl rfl⟩
      · exact ⟨by rw [h]; exact h2, .inl rfl⟩
  · obtain ⟨g1, g2, g3, g4, g5⟩ := up_parts I O hn h1 h0 hv
    refine ⟨.inr ⟨g1, g5.trans_ h2, ?_⟩, fun t => ⟨fun h => ?_, fun h => ?_⟩⟩
    · rcases h3 with h3 | h3
      · exact .inl h3
      · refine .inr fun u hu => ?_
        rcases (g3 u).1 (h3 u hu) with e | e
        · rcases hgo with h | h
          · exact absurd h (fun hb0 => by
              subst hb0
              have hz := I.none_ 0 (by omega) (.inr rfl)
              rw [hu] at hz
              cases hz
              have := O.bound _ (h3 _ hu).1
              omega)
          · exact absurd (by rw [hu, e]) h
        · exact e
    · have hv1 := (O.bound _ g1).1
      have hnd : ¬ Dom sc o t v := by
        rcases h.2 with h4 | h4
        · omega
        · exact h4
      by_cases e : t = xn
      · exact .inr e
      · refine .inl ⟨h.1, .inr fun hd => ?_⟩
        rcases (g3 t).1 hd with h5 | h5
        · exact e h5
        · exact hnd h5
    · rcases h with h | h
      · refine ⟨h.1, .inr fun hd => ?_⟩
        rcases h.2 with h4 | h4
        · omega
        · exact h4 ((g3 t).2 (.inr hd))
      · exact ⟨by rw [h]; exact h2, .inr (by rw [h]; exact g4)⟩
theorem walk_bound (O : OrderOk n sc o) {b : Nat} (h : WalkS sc o l b p x) : x = -1 ∨ (0 ≤ x ∧ x < n ∧ x ∈ o) := by
  rcases h with ⟨h1, -⟩ | ⟨h1, -⟩
  · exact .inl h1
  · have := O.bound _ h1; exact .inr ⟨this.1, this.2, h1⟩
/-- where b stands in t's frontier, by predecessor p -/
def FrP (sc : Int → List Int) (o : List Int) (t b p : Int) : Prop := Dom sc o t p ∧ (t = b ∨ ¬ Dom sc o t b)
theorem walk_end (I : IdomOk sc o n l) (O : OrderOk n sc o) (hn : 0 < n) {b : Nat} (hb : (b : Int) ∈ o) (h : WalkS sc o l b p x) (hend : x = -1 ∨ (b ≠ 0 ∧ l[b]? = some x)) : VisS sc o p x t ↔ FrP sc o t b p := by
  by_cases h0 : b = 0
  · subst h0
    have hx : x = -1 := by
      rcases hend with h | ⟨h, -⟩
      · exact h
      · exact absurd rfl h
    subst hx
    refine ⟨fun h => ⟨h.1, ?_⟩, fun h => ⟨h.1, .inl rfl⟩⟩
    by_cases e : t = 0
    · exact .inl e
    · exact .inr fun hd => e (dom_zero_only O hn I hd)
  · have hx : l[b]? = some x := by
      rcases hend with h1 | ⟨-, h1⟩
      · rcases h with ⟨-, h⟩ | ⟨h2, -⟩
        · exact absurd h h0
        · have := O.bound _ h2; omega
      · exact h1
    obtain ⟨g1, g2, g3, g4, g5⟩ := up_parts I O hn hb h0 hx
    have hx1 := (O.bound _ g1).1
    refine ⟨fun h => ⟨h.1, ?_⟩, fun h => ⟨h.1, .inr fun hd => ?_⟩⟩
    · have hnd : ¬ Dom sc o t x := by
        rcases h.2 with h4 | h4
        · omega
        · exact h4
      by_cases e : t = b
      · exact .inl e
      · exact .inr fun hd => by
          rcases (g3 t).1 hd with h5 | h5
          · exact e h5
          · exact hnd h5
    · rcases h.2 with e | e
      · rw [e] at hd; exact g4 hd
      · exact e ((g3 t).2 (.inr hd))
end
/-- b stands in t's frontier -/
def FrS (sc : Int → List Int) (o : List Int) (t b : Int) : Prop := ∃ p, b ∈ sc p ∧ FrP sc o t b p
open Classical in
noncomputable def frB (sc : Int → List Int) (o : List Int) (t b : Nat) : Bool := decide (FrS sc o t b)
theorem frB_iff {sc : Int → List Int} {o : List Int} {t b : Nat} : frB sc o t b = true ↔ FrS sc o t b := by unfold frB; exact @decide_eq_true_iff _ (Classical.propDecidable _)
theorem frB_no {sc : Int → List Int} {o : List Int} {t b : Nat} (h : ¬ FrS sc o t b) : frB sc o t b = false := by rw [← Bool.not_eq_true, frB_iff]; exact h

/-- the numbers below b of which q t holds -/
def qAt (q : Nat → Nat → Bool) (t b : Nat) : List Int := ((List.range b).filter (q t)).map Int.ofNat
def qL (q : Nat → Nat → Bool) (n b : Nat) : List (List Int) := (List.range n).map fun t => qAt q t b
/-- .. and b itself at the rows that are marked -/
def qM (q : Nat → Nat → Bool) (M : Nat → Bool) (n b : Nat) : List (List Int) := (List.range n).map fun t => qAt q t b ++ if M t = true then [(b : Int)] else []
section
variable {q : Nat → Nat → Bool} {M : Nat → Bool} {n b t : Nat}
theorem qL_len : (qL q n b).length = n := by simp [qL]
theorem qM_len : (qM q M n b).length = n := by simp [qM]
theorem qL_at (h : t < n) : (qL q n b)[t]? = some (qAt q t b) := by simp [qL, h]
theorem qM_at (h : t < n) : (qM q M n b)[t]? = some (qAt q t b ++ if M t = true then [(b : Int)] else []) := by simp [qM, h]
theorem qAt_step : qAt q t (b + 1) = qAt q t b ++ if q t b = true then [(b : Int)] else [] := by
  unfold qAt
  rw [List.range_succ, List.filter_append, List.map_append]
  by_cases h : q t b = true
  · simp [h]
  · simp [h]
theorem qAt_len : ∀ {b : Nat}, (qAt q t b).length ≤ b
  | 0 => by simp [qAt]
  | b + 1 => by rw [qAt_step, List.length_append]; have := qAt_len (b := b); split <;> simp <;> omega
theorem qAt_mem {x : Int} : x ∈ qAt q t b ↔ ∃ k : Nat, x = k ∧ k < b ∧ q t k = true := by
  unfold qAt
  simp only [List.mem_map, List.mem_filter, List.mem_range]
  exact ⟨fun ⟨k, ⟨h1, h2⟩, h3⟩ => ⟨k, h3.symm, h1, h2⟩, fun ⟨k, h1, h2, h3⟩ => ⟨k, ⟨h2, h3⟩, h1.symm⟩⟩
theorem qAt_sorted : ∀ {b : Nat}, (qAt q t b).Pairwise (· < ·)
  | 0 => by simp [qAt]
  | b + 1 => by
    rw [qAt_step, List.pairwise_append]
    refine ⟨qAt_sorted, by split <;> simp, fun x hx y hy => ?_⟩
    obtain ⟨k, rfl, h1, -⟩ := qAt_mem.1 hx
    split at hy
    · rw [List.mem_singleton.1 hy]; omega
    · cases hy
theorem qL_zero : qL q n 0 = List.replicate n [] := by
  refine List.ext_getElem? fun k => ?_
  by_cases h : k < n
  · rw [qL_at h, List.getElem?_replicate, if_pos h]; simp [qAt]
  · rw [List.getElem?_eq_none (by rw [qL_len]; omega), List.getElem?_eq_none (by simp; omega)]
theorem qM_none : qM q (fun _ => false) n b = qL q n b := by simp [qM, qL]
theorem qM_end (h : ∀ t, t < n → M t = q t b) : qM q M n b = qL q n (b + 1) := by
  refine List.ext_getElem? fun k => ?_
  by_cases hk : k < n
  · rw [qM_at hk, qL_at hk, qAt_step, h k hk]
  · rw [List.getElem?_eq_none (by rw [qM_len]; omega), List.getElem?_eq_none (by rw [qL_len]; omega)]
theorem qM_mark (ht : t < n) (hM : M t = false) : (qM q M n b).set t (qAt q t b ++ [(b : Int)]) = qM q (fun k => if k = t then true else M k) n b := by
  refine List.ext_getElem? fun k => ?_
  by_cases hk : k < n
  · rw [qM_at hk]
    by_cases e : t = k
    · subst e; rw [List.getElem?_set_self (by rw [qM_len]; exact hk)]; simp
    · rw [List.getElem?_set_ne e, qM_at hk, if_neg (show ¬ k = t from fun e2 => e e2.symm)]
  · rw [List.getElem?_eq_none (by rw [List.length_set, qM_len]; omega), List.getElem?_eq_none (by rw [qM_len]; omega)]
theorem qM_congr {M' : Nat → Bool} (h : ∀ t, M t = M' t) : qM q M n b = qM q M' n b := by
  have : M = M' := funext h
  rw [this]
theorem qM_has (ht : t < n) : ((qAt q t b ++ if M t = true then [(b : Int)] else []).contains (b : Int)) = M t := by
  have hno : (qAt q t b).contains (b : Int) = false := by
    rw [← Bool.not_eq_true, List.contains_iff_mem]
    intro h
    obtain ⟨k, h1, h2, -⟩ := qAt_mem.1 h
    omega
  rw [List.contains_eq_any_beq, List.any_append, ← List.contains_eq_any_beq, hno]
  cases M t <;> simp
end
end Go.Proofs.Yteeclobpajalmaa

namespace Go.Proofs.Yteeclobpajalmaa
open Go.RowKit Go.Sort
set_option linter.unusedSimpArgs false
set_option linter.unusedVariables false

def sortLaidRen : Go.Shelf.Ren := ⟨fun | 5 => 120 | 8 => 136 | 7 => 135 | 19 => 153 | 20 => 154 | 10 => 145 | 11 => 146 | 12 => 147 | 13 => 148 | 14 => 149 | 15 => 150 | 16 => 129 | 17 => 151 | 18 => 152 | 30 => 157 | 31 => 158 | 32 => 159 | 33 => 160 | 34 => 161 | 35 => 142 | 40 => 162 | n => n, fun | 23 => 22 | 25 => 3 | 3 => 3 | 32 => 157 | 22 => 22 | 0 => 0 | 44 => 176 | 46 => 51 | 4 => 4 | 36 => 170 | 35 => 169 | 41 => 143 | 5 => 5 | 9 => 9 | 53 => 179 | 57 => 183 | 63 => 185 | 64 => 150 | n => n, fun | n => n⟩
theorem sortLaid : SlLaysM.n5 Try.prog sortLaidRen where
  mixed := by kernel_rfl
  f5 := ⟨ "slices.Sort[[]int,int]", by decide, Try.func120.trans (congrArg some (by kernel_rfl))⟩
  f7 := ⟨ "slices.pdqsortOrdered[int]", by decide, Try.func135.trans (congrArg some (by kernel_rfl))⟩
  f8 := Try.func136.trans (congrArg some (by kernel_rfl))
  f10 := ⟨ "slices.insertionSortOrdered[int]", by decide, Try.func145.trans (congrArg some (by kernel_rfl))⟩
  f11 := ⟨ "slices.heapSortOrdered[int]", by decide, Try.func146.trans (congrArg some (by kernel_rfl))⟩
  f12 := ⟨ "slices.breakPatternsOrdered[int]", by decide, Try.func147.trans (congrArg some (by kernel_rfl))⟩
  f13 := ⟨ "slices.choosePivotOrdered[int]", by decide, Try.func148.trans (congrArg some (by kernel_rfl))⟩
  f14 := ⟨ "slices.reverseRangeOrdered[int]", by decide, Try.func149.trans (congrArg some (by kernel_rfl))⟩
  f15 := ⟨ "slices.partialInsertionSortOrdered[int]", by decide, Try.func150.trans (congrArg some (by kernel_rfl))⟩
  f16 := ⟨ "cmp.Less[int]", by decide, Try.func129.trans (congrArg some (by kernel_rfl))⟩
  f17 := ⟨ "slices.partitionEqualOrdered[int]", by decide, Try.func151.trans (congrArg some (by kernel_rfl))⟩
  f18 := ⟨ "slices.partitionOrdered[int]", by decide, Try.func152.trans (congrArg some (by kernel_rfl))⟩
  f19 := Try.func153.trans (congrArg some (by kernel_rfl))
  f20 := Try.func154.trans (congrArg some (by kernel_rfl))
  f30 := ⟨ "slices.siftDownOrdered[int]", by decide, Try.func157.trans (congrArg some (by kernel_rfl))⟩
  f31 := Try.func158.trans (congrArg some (by kernel_rfl))
  f32 := Try.func159.trans (congrArg some (by kernel_rfl))
  f33 := ⟨ "slices.medianAdjacentOrdered[int]", by decide, Try.func160.trans (congrArg some (by kernel_rfl))⟩
  f34 := ⟨ "slices.medianOrdered[int]", by decide, Try.func161.trans (congrArg some (by kernel_rfl))⟩
  f35 := ⟨ "cmp.isNaN[int]", by decide, Try.func142.trans (congrArg some (by kernel_rfl))⟩
  f40 := ⟨ "slices.order2Ordered[int]", by decide, Try.func162.trans (congrArg some (by kernel_rfl))⟩
  t0 := Try.underlying0
  a0 := Try.isAgg0
  z0 := Try.sizeOf0
  v0 := Try.zeroValue0
  t3 := Try.underlying3
  a3 := Try.isAgg3
  z3 := Try.sizeOf3
  v3 := Try.zeroValue3
  t4 := Try.underlying4
  a4 := Try.isAgg4
  z4 := Try.sizeOf4
  v4 := Try.zeroValue4
  t5 := Try.underlying5
  a5 := Try.isAgg5
  z5 := Try.sizeOf5
  v5 := Try.zeroValue5
  t9 := Try.underlying9
  a9 := Try.isAgg9
  z9 := Try.sizeOf9
  v9 := Try.zeroValue9
  t22 := Try.underlying22
  a22 := Try.isAgg22
  z22 := Try.sizeOf22
  v22 := Try.zeroValue22
  t23 := Try.underlying22
  a23 := Try.isAgg22
  z23 := Try.sizeOf22
  v23 := Try.zeroValue22
  t25 := Try.underlying3
  a25 := Try.isAgg3
  z25 := Try.sizeOf3
  v25 := Try.zeroValue3
  t32 := Try.underlying157
  a32 := Try.isAgg157
  z32 := Try.sizeOf157
  v32 := Try.zeroValue157
  t35 := Try.underlying169
  a35 := Try.isAgg169
  z35 := Try.sizeOf169
  v35 := Try.zeroValue169
  t36 := Try.underlying170
  a36 := Try.isAgg170
  z36 := Try.sizeOf170
  v36 := Try.zeroValue170
  t41 := Try.underlying143
  a41 := Try.isAgg143
  z41 := Try.sizeOf143
  v41 := Try.zeroValue143
  t44 := Try.underlying176
  a44 := Try.isAgg176
  z44 := Try.sizeOf176
  v44 := Try.zeroValue176
  t46 := Try.underlying51
  a46 := Try.isAgg51
  z46 := Try.sizeOf51
  v46 := Try.zeroValue51
  t53 := Try.underlying179
  a53 := Try.isAgg179
  z53 := Try.sizeOf179
  v53 := Try.zeroValue179
  t57 := Try.underlying183
  a57 := Try.isAgg183
  z57 := Try.sizeOf183
  v57 := Try.zeroValue183
  t63 := Try.underlying185
  a63 := Try.isAgg185
  z63 := Try.sizeOf185
  v63 := Try.zeroValue185
  t64 := Try.underlying150
  a64 := Try.isAgg150
  z64 := Try.sizeOf150
  v64 := Try.zeroValue150
theorem holds_own {w : World} {S g n C : Nat} {l : List Int} (h : OwnI w S (.slice (some ⟨g, 0, none⟩) n C) l) : Holds (Value.int .i64) w g 0 l.toArray := by
  intro j hj
  have hj' : j < l.length := by simpa using hj
  have hn : n = l.length := by
    rcases h.row.2 with ⟨e, _⟩ | ⟨g', c', cur, e, _⟩
    · cases e
    · simp only [Value.slice.injEq] at e; exact e.2.1
  subst hn
  refine ⟨?_, ?_⟩
  · rw [Nat.zero_add, World.ownsRow.cellAt h.row j (by omega), List.getElem?_map, List.getElem?_eq_getElem hj']
    simp [hj']
  · rw [Nat.zero_add]; exact World.ownsRow.frozenAt h.row j
theorem below_grow {w : World} {n : Nat} {os : Array Obj} : Below w.heap.size w (grow (Sort.ahead w n) os) :=
  ⟨rfl, rfl, rfl, by simp [grow, Sort.ahead], fun k hk => by
    show (w.heap ++ os)[k]? = w.heap[k]?
    rw [Array.getElem?_append_left hk]⟩
theorem sort_sorted (v : Value) (l : List Int) (w : World) (S : Nat) (h : OwnI w S v l) (hs : l.Pairwise (· ≤ ·)) (hl : l.length ≤ 2000000) :
    Calls Try.prog 120 #[v] w fun e w' => e = .returned (.tuple #[]) ∧ Below w.heap.size w w' := by
  rcases h.row.2 with ⟨e, h0⟩ | ⟨g, C, cur, e, hb, hh, _⟩
  · subst e
    refine (AnyM.slices_Sort_int_none sortLaid none 0 w).mono ?_
    rintro e w' ⟨rfl, rfl⟩
    exact ⟨rfl, Below.refl _ _⟩
  · subst e
    have hg : g < w.heap.size := (Array.getElem?_eq_some_iff.1 hh).1
    have hH := holds_own h
    refine (AnyM.slices_Sort_int sortLaid g 0 C l w hH hg (by omega)).mono ?_
    rintro e w' ⟨rfl, n, os, rfl⟩
    have hsorted : (l.mergeSort fun x y => decide (x ≤ y)) = l := List.mergeSort_of_pairwise (by simpa using hs)
    rw [hsorted]
    have hH2 : Holds (Value.int .i64) (Sort.ahead w n) g 0 l.toArray := hH
    rw [putRow_self _ _ _ _ _ hH2]
    exact ⟨rfl, below_grow⟩
end Go.Proofs.Yteeclobpajalmaa

namespace Go.Proofs.Yteeclobpajalmaa
open Go.RowKit
set_option linter.unusedSimpArgs false
set_option linter.unusedVariables false

def RowsI (w : World) (G S n : Nat) (ls : List (List Int)) : Prop :=
  ∃ cs : List Value, w.ownsRow G 22 1 (.slice (some ⟨G, 0, none⟩) n n) n cs ∧ ls.length = n ∧
    (∀ (k : Nat) (c : Value) (l : List Int), cs[k]? = some c → ls[k]? = some l → OwnI w S c l) ∧
    ∀ (k k' : Nat) (v v' : Value), k ≠ k' → cs[k]? = some v → cs[k']? = some v' → v.ownBlock = none ∨ v.ownBlock ≠ v'.ownBlock
section
variable {w w' w0 w1 : World} {G S n : Nat} {ls : List (List Int)}
theorem RowsI.start (h : w.ownsRow G 22 1 (.slice (some ⟨G, 0, none⟩) n n) n (List.replicate n (Value.slice none 0 0))) : RowsI w G S n (List.replicate n []) := by
  refine ⟨_, h, by simp, fun k c l h1 h2 => ?_, fun k k' v v' _ h1 _ => ?_⟩
  · rw [List.getElem?_replicate] at h1 h2
    split at h1
    · rename_i hk
      rw [if_pos hk] at h2
      cases h1; cases h2
      exact OwnI.nil_
    · cases h1
  · rw [List.getElem?_replicate] at h1
    split at h1
    · cases h1; exact .inl rfl
    · cases h1
theorem RowsI.below (h : RowsI w G S n ls) (hb : Below w.heap.size w w') : RowsI w' G S n ls := by
  obtain ⟨cs, h1, h2, h3, h4⟩ := h
  exact ⟨cs, row_kept h1 fun k hk => hb.block k (row_lt h1 hk).2.1, h2, fun k c l hc hl => (h3 k c l hc hl).kept fun q _ hq => hb.block q hq, h4⟩
theorem RowsI.lt (h : RowsI w G S n ls) : G < w.heap.size := by
  obtain ⟨cs, h1, -⟩ := h
  exact (row_lt h1 rfl).2.1
theorem RowsI.owned (h : RowsI w G S n ls) (hGS : G ≤ S) : ∃ cs, OwnL w G none (.slice (some ⟨G, 0, none⟩) n n) ls cs := by
  obtain ⟨cs, h1, h2, h3, h4⟩ := h
  subst h2
  refine ⟨cs, h1, fun k c l hc hl => (h3 k c l hc hl).mono hGS, fun i j ci cj k hi hj hne hk hk' => ?_, fun i c k hc hk => by cases hk⟩
  rcases h4 i j ci cj hne hi hj with e | e
  · rw [e] at hk; cases hk
  · exact e (hk.trans hk'.symm)
theorem RowsI.at_ (h : RowsI w G S n ls) {k : Nat} {l : List Int} (hl : ls[k]? = some l) : ∃ A C, w.cell? ⟨G, k, none⟩ = some (.slice A l.length C) ∧ w.frozen? ⟨G, k, none⟩ = false ∧ OwnI w S (.slice A l.length C) l ∧ G < w.heap.size ∧ (∀ q, (Value.slice A l.length C).ownBlock = some q → S ≤ q ∧ q < w.heap.size ∧ q ≠ G) := by
  obtain ⟨cs, h1, h2, h3, h4⟩ := h
  have hk := (List.getElem?_eq_some_iff.1 hl).1
  obtain ⟨c, hc⟩ : ∃ c, cs[k]? = some c := ⟨_, List.getElem?_eq_getElem (by have := h1.1; omega)⟩
  have h5 := h3 k c l hc hl
  obtain ⟨A, C, rfl⟩ := row_form h5.row
  refine ⟨A, C, by rw [World.ownsRow.cellAt h1 k (by omega)]; exact hc, World.ownsRow.frozenAt h1 k, h5, (row_lt h1 rfl).2.1, fun q hq => ⟨(row_lt h5.row hq).1, (row_lt h5.row hq).2.1, fun e => ?_⟩⟩
  subst e
  obtain ⟨-, -, c1, e1⟩ := row_lt h5.row hq
  obtain ⟨-, -, c2, e2⟩ := row_lt h1 (k := q) rfl
  rw [e1] at e2; cases e2
/-- one number more at the end of row k -/
theorem RowsI.push (h : RowsI w G S n ls) (hb : Below w.heap.size w w0) {k : Nat} {l : List Int} {x : Int} {A : Option Addr} {C g' C' : Nat} (hl : ls[k]? = some l) (hx : I64 x) (hc : w.cell? ⟨G, k, none⟩ = some (.slice A l.length C)) (hg : w0.grownBy w1 (Value.slice A l.length C).ownBlock) (hgq : (Value.slice A l.length C).ownBlock = some g' ∨ w0.heap.size ≤ g')
    (ho : w1.ownsRow S 3 1 (.slice (some ⟨g', 0, none⟩) (l.length + 1) C') (l.length + 1) ((l.map fun z => Value.int .i64 z) ++ [.int .i64 x])) :
    RowsI (w1.setCell ⟨G, k, none⟩ (.slice (some ⟨g', 0, none⟩) (l.length + 1) C')) G S n (ls.set k (l ++ [x])) := by
  obtain ⟨cs0, h10, -⟩ := id h
  obtain ⟨cs, h1, h2, h3, h4⟩ := h.below hb
  have hkn := (List.getElem?_eq_some_iff.1 hl).1
  have hcl : cs.length = n := by have := h1.1; omega
  have hck : cs[k]? = some (.slice A l.length C) := by
    have e1 := World.ownsRow.cellAt h1 k (by omega)
    rw [hb.cell (p := ⟨G, k, none⟩) (row_lt h10 rfl).2.1, hc] at e1
    exact e1.symm
  have hother : ∀ {j v}, j ≠ k → cs[j]? = some v → ∀ q, v.ownBlock = some q → q < w0.heap.size → w1.heap[q]? = w0.heap[q]? := fun {j v} hj hv q hq hlt => hg.block q hlt fun e => by
    rcases h4 j k v _ hj hv hck with e1 | e1
    · rw [e1] at hq; cases hq
    · exact e1 (hq.trans e)
  have h1' : w1.ownsRow G 22 1 (.slice (some ⟨G, 0, none⟩) n n) n cs := row_kept h1 fun q hq => by
    refine hg.block q (row_lt h1 hq).2.1 fun e => ?_
    obtain ⟨-, -, c1, e1⟩ := row_lt (h3 k _ l hck hl).row e.symm
    obtain ⟨-, -, c2, e2⟩ := row_lt h1 hq
    rw [e1] at e2; cases e2
  have hs := (World.ownsRow.stored h1' k (.slice (some ⟨g', 0, none⟩) (l.length + 1) C')).1
  have hbut := But.stored (j := k) (u := .slice (some ⟨g', 0, none⟩) (l.length + 1) C') h1'
  refine ⟨_, hs, by simpa using h2, fun j c m hc' hm => ?_, fun j j' v v' hne hv hv' => ?_⟩
  · by_cases e : k = j
    · subst e
      rw [List.getElem?_set_self (by omega)] at hc' hm
      cases hc'; cases hm
      refine ⟨hbut.row (by decide) ?_, fun z hz => ?_⟩
      · rw [List.length_append, List.map_append]; exact ho
      · rcases List.mem_append.1 hz with hz | hz
        · exact (h3 k _ l hck hl).ok z hz
        · rw [List.mem_singleton.1 hz]; exact hx
    · rw [List.getElem?_set_ne e] at hc' hm
      have h5 := h3 j c m hc' hm
      exact ⟨hbut.row (by decide) (row_kept h5.row fun q hq => hother (fun e2 => e e2.symm) hc' q hq (row_lt h5.row hq).2.1), h5.ok⟩
  · have key : ∀ {j v}, j ≠ k → cs[j]? = some v → j < n → v.ownBlock = none ∨ v.ownBlock ≠ some g' := fun {j v} hj hv hjn => by
      cases hvo : v.ownBlock with
      | none => exact .inl rfl
      | some q =>
        refine .inr fun e => ?_
        cases e
        rcases hgq with e1 | e1
        · rcases h4 j k v _ hj hv hck with e2 | e2
          · rw [hvo] at e2; cases e2
          · exact e2 (hvo.trans e1.symm)
        · obtain ⟨m, hm⟩ : ∃ m, ls[j]? = some m := ⟨_, List.getElem?_eq_getElem (by omega)⟩
          have := (row_lt (h3 j v m hv hm).row hvo).2.1; omega
    by_cases e : j = k
    · subst e
      rw [List.getElem?_set_self (by omega)] at hv
      rw [List.getElem?_set_ne hne] at hv'
      cases hv
      refine .inr fun e2 => ?_
      rcases key (fun e => hne e.symm) hv' (by have := (List.getElem?_eq_some_iff.1 hv').1; omega) with e3 | e3
      · rw [e3] at e2; cases e2
      · exact e3 e2.symm
    · rw [List.getElem?_set_ne (fun e2 => e e2.symm)] at hv
      by_cases e' : j' = k
      · subst e'
        rw [List.getElem?_set_self (by omega)] at hv'
        cases hv'
        exact key e hv (by have := (List.getElem?_eq_some_iff.1 hv).1; omega)
      · rw [List.getElem?_set_ne (fun e2 => e' e2.symm)] at hv'
        exact h4 j j' v v' hne hv hv'
end
end Go.Proofs.Yteeclobpajalmaa

namespace Go.Proofs.Yteeclobpajalmaa
open Go.RowKit
set_option linter.unusedSimpArgs false
set_option linter.unusedVariables false

def FrontPost (sc : Int → List Int) (o : List Int) (n : Nat) (w : World) (e : Ending) (w' : World) : Prop := ∃ g cs, e = .returned (.slice (some ⟨g, 0, none⟩) n n) ∧ OwnL w' w.heap.size none (.slice (some ⟨g, 0, none⟩) n n) (qL (frB sc o) n n) cs ∧ Below w.heap.size w w'
def muW (o : List Int) (x : Int) : Nat := if x = -1 then 0 else o.idxOf x + 1
theorem fr_out {sc : Int → List Int} {n : Nat} {o : List Int} (O : OrderOk n sc o) {t b : Int} (h : FrS sc o t b) : b ∈ o := by
  obtain ⟨p, h1, h2, -⟩ := h
  have hp := (O.mem p).1 h2.2.1
  exact (O.mem b).2 ⟨hp.1, .step hp.2 h1⟩
/-- the state of the innermost loop -/
def InS (sc : Int → List Int) (O l : List Int) (n b : Nat) (M : Nat → Bool) (x0 x : Int) (M' : Nat → Bool) : Prop :=
  (x = x0 ∧ x0 ∉ O ∧ 0 ≤ x0 ∧ x0 < n ∧ ∀ t, M' t = M t) ∨ (x0 ∈ O ∧ WalkS sc O l b x0 x ∧ ∀ t : Nat, t < n → (M' t = true ↔ M t = true ∨ VisS sc O x0 x t))
def DoneS (sc : Int → List Int) (O : List Int) (n b i : Nat) (p : List Int) (M : Nat → Bool) : Prop := ∀ t : Nat, t < n → (M t = true ↔ ∃ (i' : Nat) (x : Int), i' < i ∧ p[i']? = some x ∧ FrP sc O t b x)
theorem done_next {sc : Int → List Int} {O : List Int} {n b i : Nat} {p : List Int} {M M' : Nat → Bool} {x : Int} (h : DoneS sc O n b i p M) (hx : p[i]? = some x) (hm : ∀ t : Nat, t < n → (M' t = true ↔ M t = true ∨ FrP sc O t b x)) : DoneS sc O n b (i + 1) p M' := fun t ht => by
  rw [hm t ht, h t ht]
  constructor
  · rintro (⟨i', y, h1, h2, h3⟩ | h1)
    · exact ⟨i', y, by omega, h2, h3⟩
    · exact ⟨i, x, by omega, hx, h1⟩
  · rintro ⟨i', y, h1, h2, h3⟩
    by_cases e : i' = i
    · subst e; rw [hx] at h2; cases h2; exact .inr h3
    · exact .inl ⟨i', y, by omega, h2, h3⟩
set_option maxRecDepth 100000 in
set_option maxHeartbeats 12800000 in
theorem front_any (f : Fun) (c1 c2 : Value) (w : World) (B : Nat) (hB : B ≤ w.heap.size) (hf : RFun.rep w B [.string f.name, c1, .int .i64 f.ret, c2] f) (hs : Small f) :
    Calls Try.prog 92 #[f.v c1 c2] w (FrontPost (succsF f.blocks) (orderF f.blocks) f.blocks.length w) := by
  obtain ⟨hp, hb⟩ := fun_open (RFun.later hf (Below.refl _ _) hB)
  obtain ⟨A1, k1, h1, -, -⟩ := Rp.slice1_open hp
  obtain ⟨A2, k2, h2, hm2, -⟩ := Rp.slice1_open hb
  cases h1; cases h2
  clear hp hb
  obtain ⟨n, hn⟩ : ∃ n, Hid (n = f.blocks.length) := ⟨_, hide rfl⟩
  have hnle : n ≤ 2000000 := by rw [hn.out]; exact hs.blocks
  obtain ⟨O, hO⟩ : ∃ O, Hid (O = orderF f.blocks) := ⟨_, hide rfl⟩
  obtain ⟨sc, hsc⟩ : ∃ sc, Hid (sc = succsF f.blocks) := ⟨_, hide rfl⟩
  obtain ⟨R, hR⟩ : ∃ R, Hid (R = reachF f.blocks) := ⟨_, hide rfl⟩
  obtain ⟨P, hP⟩ : ∃ P, Hid (P = predsL sc n) := ⟨_, hide rfl⟩
  have hPl : P.length = n := by rw [hP.out, predsL_len]
  have hRl : R.length = n := by rw [hR.out, hn.out, reach_len]
  have hsok : Hid (∀ b, SuccOk n (sc b)) := hide (fun b => by rw [hsc.out, hn.out]; exact succsF_ok _ _)
  have hok : Hid (OrderOk n sc O) := hide (by rw [hO.out, hn.out, hsc.out]; exact order_ok _)
  have hol : O.length ≤ n := by rw [hO.out, hn.out]; exact order_len _
  have hRat : Hid (∀ k : Nat, k < n → R[k]? = some (decide ((k : Int) ∈ O))) := hide (fun k hk => by rw [hR.out, hO.out]; exact reach_at _ _ (by rw [← hn.out]; exact hk))
  rw [← hn.out, ← hO.out, ← hsc.out]
  rw [← hn.out] at hf hm2
  obtain ⟨W, hW, hwW, hWs, hx⟩ := boxes1 w #[.string f.name, .slice A1 f.params.length k1, .int .i64 f.ret, .slice A2 n k2] 25
  have q0 : ∀ w', Below W.heap.size W w' → w'.cell? ⟨w.heap.size, 0, none⟩ = some (.string f.name) := hx 0 _ rfl
  have q1 : ∀ w', Below W.heap.size W w' → w'.cell? ⟨w.heap.size, 1, none⟩ = some (.slice A1 f.params.length k1) := hx 1 _ rfl
  have q2 : ∀ w', Below W.heap.size W w' → w'.cell? ⟨w.heap.size, 2, none⟩ = some (.int .i64 f.ret) := hx 2 _ rfl
  have q3 : ∀ w', Below W.heap.size W w' → w'.cell? ⟨w.heap.size, 3, none⟩ = some (.slice A2 n k2) := hx 3 _ rfl
  clear hx
  have hws : w.heap.size ≤ W.heap.size := by omega
  replace hWs := hide hWs
  have hself := Below.refl W.heap.size W
  have hF : Hid (∀ w', Below W.heap.size W w' → RFun.rep w' w'.heap.size [.string f.name, .slice A1 f.params.length k1, .int .i64 f.ret, .slice A2 n k2] f) := hide (fun w' h => RFun.later hf ((hwW.trans (h.mono hws)).mono hB) (Nat.le_trans hB (hwW.trans (h.mono hws)).size))
  have cI : Hid (∀ w', Below W.heap.size W w' → Calls Try.prog 93 #[f.v (.slice A1 f.params.length k1) (.slice A2 n k2)] w' (IdomPost sc O n w')) := hide (fun w' h => by
    have := idom_any f (.slice A1 f.params.length k1) (.slice A2 n k2) w' w'.heap.size (Nat.le_refl _) (hF.out w' h) hs
    rwa [← hn.out, ← hO.out, ← hsc.out] at this)
  have cR : Hid (∀ w', Below W.heap.size W w' → Calls Try.prog 32 #[f.v (.slice A1 f.params.length k1) (.slice A2 n k2)] w' (ReachPost n R w')) := hide (fun w' h => by
    have := reach_any f (.slice A1 f.params.length k1) (.slice A2 n k2) w' w'.heap.size (Nat.le_refl _) (hF.out w' h) hs
    rwa [← hn.out, ← hR.out] at this)
  have cP : Hid (∀ w', Below W.heap.size W w' → Calls Try.prog 36 #[f.v (.slice A1 f.params.length k1) (.slice A2 n k2)] w' (PredPost n P w')) := hide (fun w' h => by
    have := preds_any f (.slice A1 f.params.length k1) (.slice A2 n k2) w' w'.heap.size (Nat.le_refl _) (hF.out w' h) hs
    rwa [← hn.out, ← hsc.out, ← hP.out] at this)
  replace hs := hide hs
  replace hf := hide hf
  replace hwW := hide hwW
  obtain ⟨i0, hi0, hz0, hz1, hz2⟩ := cinfo_parts cinfo_int
  obtain ⟨b0, hb0, hx0, hx1, hx2⟩ := cinfo_parts cinfo_ints
  replace hi0 := hide hi0
  replace hz0 := hide hz0
  replace hz1 := hide hz1
  replace hz2 := hide hz2
  replace hb0 := hide hb0
  replace hx0 := hide hx0
  replace hx1 := hide hx1
  replace hx2 := hide hx2
  replace hW := hide hW
  go_enter Try.func92, Try.ntmps92
  go_upto_region 1 with (fail)
  rw [hW.out]
  clear hW
  go_wp2_with (at_make; refine wpList_make_full _ rfl (.tmp 13) (.tmp 13) _ rfl W.heap.size 22 b0 _ 1 Try.underlying38 hb0.out hx0.out hx1.out .i64 .i64 n n n rfl rfl rfl rfl ?c1 ?c2 (Nat.le_refl _) ?_)
  case c1 => rw [hx2.out]; omega
  case c2 => unfold maxLen; omega
  intro w1 hown1 hg1
  have hbel1 := below_grown0 hg1
  have hmk1 := hide (made_rows hown1)
  have hGw1 := (row_lt hmk1.out (k := W.heap.size) rfl).2.1
  clear hg1 hown1
  have hs1 := hbel1.size
  go_wp2_with (fail)
  refine (cI.out _ hbel1).mono ?_
  rintro e X1 ⟨gl, l, rfl, hI, hN, hb2⟩
  have hbX1 := hbel1.trans (hb2.mono hs1)
  have hsX1 := hb2.size
  go_wp2_with (fail)
  refine (cR.out _ hbX1).mono ?_
  rintro e X2 ⟨gr, rfl, hR4, hb3⟩
  have hbX2 := hbX1.trans (hb3.mono hbX1.size)
  have hsX2 := hb3.size
  go_wp2_with (fail)
  refine (cP.out _ hbX2).mono ?_
  rintro e X ⟨gp, cs, rfl, hP4, hb4⟩
  have hbX := hbX2.trans (hb4.mono hbX2.size)
  have hsX := hb4.size
  have hI' := hide hI
  have hll := hN.len
  have hin : Hid (∀ x, x ∈ l → -1 ≤ x ∧ x < n) := hide (hI.ok hok.out)
  have hrows : Hid (RowsI X W.heap.size X.heap.size n (qL (frB sc O) n 0)) := hide (by
    rw [qL_zero]
    exact ((RowsI.start hmk1.out).below (hb2.trans ((hb3.trans (hb4.mono hsX2)).mono hsX1)))
    )
  have hOX : Hid (∀ w', Only (fun k => k = W.heap.size) X.heap.size X w' → Below W.heap.size W w') := hide (fun w' h => hbX.trans (h.to_below (fun k hk => by have e : k = W.heap.size := hk; omega) hbX.size))
  have rup : Hid (∀ (k : Nat) x, l[k]? = some x → ∀ w', Only (fun k => k = W.heap.size) X.heap.size X w' → w'.cell? ⟨gl, k, none⟩ = some (.int .i64 x)) := hide (fun k x hk w' h => by
    rw [h.cell (p := ⟨gl, k, none⟩) (by have := hN.lt.2; show gl < _; omega) (by have := hN.lt.1; show ¬ gl = W.heap.size; omega)]
    exact hN.reads k x hk X (hb3.trans (hb4.mono hsX2)))
  have rre : Hid (∀ (k : Nat) b, R[k]? = some b → ∀ w', Only (fun k => k = W.heap.size) X.heap.size X w' → w'.cell? ⟨gr, k, none⟩ = some (.bool b)) := hide (fun k b hk w' h => by
    have hl := row_lt hR4 (k := gr) rfl
    rw [h.cell (p := ⟨gr, k, none⟩) (by have := hl.2.1; show gr < _; omega) (by have := hl.1; show ¬ gr = W.heap.size; omega)]
    exact (bool_reads hR4).2 k b hk X hb4)
  have rpr : Hid (∀ (k : Nat) p, P[k]? = some p → ∃ A C, (∀ w', Only (fun k => k = W.heap.size) X.heap.size X w' → w'.cell? ⟨gp, k, none⟩ = some (.slice A p.length C)) ∧ ∀ (i : Nat) x, p[i]? = some x → ∃ g5, A = some ⟨g5, 0, none⟩ ∧ ∀ w', Only (fun k => k = W.heap.size) X.heap.size X w' → w'.cell? ⟨g5, i, none⟩ = some (.int .i64 x)) := hide (fun k p hk => by
    obtain ⟨c, hc, hi⟩ := hP4.at_ hk
    obtain ⟨A, C, rfl⟩ := row_form hi.row
    have hrow4 := hP4.row
    rw [hPl] at hrow4
    have hl := row_lt hrow4 (k := gp) rfl
    have hkn : k < n := by have := (List.getElem?_eq_some_iff.1 hk).1; omega
    refine ⟨A, C, fun w' h => ?_, fun i x hx => ?_⟩
    · rw [h.cell (p := ⟨gp, k, none⟩) hl.2.1 (by have := hl.1; show ¬ gp = W.heap.size; omega), World.ownsRow.cellAt hrow4 k (by omega)]
      exact hc
    · have hil := (List.getElem?_eq_some_iff.1 hx).1
      rcases hi.row.2 with ⟨e0, h0⟩ | ⟨g5, cap, cur, e0, hb0', hh, -⟩
      · omega
      · simp only [Value.slice.injEq] at e0
        obtain ⟨rfl, -, rfl⟩ := e0
        refine ⟨g5, rfl, fun w' h => ?_⟩
        rw [h.cell (p := ⟨g5, i, none⟩) (Array.getElem?_eq_some_iff.1 hh).1 (by show ¬ g5 = W.heap.size; omega), World.ownsRow.cellAt hi.row i (by omega), List.getElem?_map, hx]
        rfl)
  have hPm : Hid (∀ (k : Nat) p, P[k]? = some p → p.length ≤ 2000000 ∧ ∀ x, x ∈ p ↔ (0 ≤ x ∧ x < n ∧ (k : Int) ∈ sc x)) := hide (fun k p hk => by
    rw [hP.out] at hk
    have hm := fun x => predsL_mem hk x
    refine ⟨?_, hm⟩
    have := range_len n p ((predsL_sorted hk).imp fun h => by omega) (fun x hx => ⟨((hm x).1 hx).1, ((hm x).1 hx).2.1⟩)
    omega)
  have hwX : Hid (Below w.heap.size w X) := hide (hwW.out.trans (hbX.mono hws))
  have hGX : W.heap.size < X.heap.size := by omega
  have hselfX := Only.refl (fun k => k = W.heap.size) X.heap.size X
  replace hbX := hide hbX
  clear hI hN hR4 hP4 hb2 hb3 hb4 hmk1 hbel1 hbX1 hbX2 cI cR cP q0 q1 q2 q3 hself hs1 hsX hsX1 hsX2 hGw1
  go_wp2
  go_loopw [22] (fun s wr => ∃ b : Nat, s = .int .i64 b ∧ b ≤ n ∧ Hid (RowsI wr W.heap.size X.heap.size n (qL (frB sc O) n b)) ∧ Only (fun k => k = W.heap.size) X.heap.size X wr) (fun s _ => n - (intOf s).toNat)
  case atStart => exact ⟨0, rfl, Nat.zero_le _, hrows, hselfX⟩
  case round =>
    clear hrows hselfX
    rename World => V
    obtain ⟨b, rfl, hb, hrow, hon⟩ := hrel
    by_cases hlt : b < n
    · have hbi : (b : Int) < (n : Int) := by omega
      obtain ⟨p, hp⟩ := get_ex (l := P) (k := b) (by omega)
      obtain ⟨Ap, Cp, rp, rpx⟩ := rpr.out b p hp.out
      obtain ⟨hpl, hpm⟩ := hPm.out b p hp.out
      replace hpm := hide hpm
      replace rpx := hide rpx
      have rre0 := rre.out b _ (hRat.out b hlt) V hon
      have rp0 := rp V hon
      by_cases hbO : (b : Int) ∈ O
      · rw [decide_eq_true hbO] at rre0
        obtain ⟨u, hu⟩ := get_ex (l := l) (k := b) (by omega)
        have hub : Hid (∃ u, l[b]? = some u) := hide ⟨u, hu.out⟩
        have hrow0 : Hid (RowsI V W.heap.size X.heap.size n (qM (frB sc O) (fun _ => false) n b)) := hide (by rw [qM_none]; exact hrow.out)
        have hd0 : Hid (DoneS sc O n b 0 p (fun _ => false)) := hide (fun t ht => ⟨fun h => (by simp at h), fun ⟨i', x, h1, _⟩ => by omega⟩)
        have rup0 := rup.out b u hu.out
        replace hbO := hide hbO
        go_wp2
        go_loopw [34] (fun s wr => ∃ (i : Nat) (M : Nat → Bool), s = .int .i64 i ∧ i ≤ p.length ∧ Hid (RowsI wr W.heap.size X.heap.size n (qM (frB sc O) M n b)) ∧ Hid (DoneS sc O n b i p M) ∧ Only (fun k => k = W.heap.size) X.heap.size X wr) (fun s _ => p.length - (intOf s).toNat)
        case atStart => exact ⟨0, _, rfl, Nat.zero_le _, hrow0, hd0, hon⟩
        case round =>
          clear hrow0 hd0 hon hrow rre0 rp0
          rename World => V
          obtain ⟨i, M, rfl, hi, hrow, hdn, hon⟩ := hrel
          by_cases hlt2 : i < p.length
          · have hii : (i : Int) < (p.length : Int) := by omega
            obtain ⟨x0, hx0'⟩ := get_ex (l := p) (k := i) hlt2
            obtain ⟨g5, rfl, rx⟩ := rpx.out i x0 hx0'.out
            have rx0 := rx V hon
            obtain ⟨hm1, hm2', hm3⟩ := (hpm.out x0).1 (List.mem_of_getElem? hx0'.out)
            have hst0 : Hid (InS sc O l n b M x0 x0 M) := hide (by
              by_cases hxO : x0 ∈ O
              · exact .inr ⟨hxO, walk_start hI'.out hok.out hbO.out hxO hm3, fun t _ => ⟨fun h => .inl h, fun h => h.resolve_right (vis_start hok.out hxO)⟩⟩
              · exact .inl ⟨rfl, hxO, hm1, hm2', fun _ => rfl⟩)
            have hn0 : Hid (0 < n) := hide (by omega)
            replace hm3 := hide hm3
            clear rx
            go_upto_region 11 with (fail)
            go_loopg [9] (muW O x0) (fun k s wr => ∃ (x : Int) (M' : Nat → Bool), s = .int .i64 x ∧ muW O x = k ∧ Hid (InS sc O l n b M x0 x M') ∧ Hid (RowsI wr W.heap.size X.heap.size n (qM (frB sc O) M' n b)) ∧ Only (fun k => k = W.heap.size) X.heap.size X wr)
            case atStart => exact ⟨x0, M, rfl, rfl, hst0, hrow, hon⟩
            case round =>
              clear hst0 hrow hon rx0
              rename World => V
              obtain ⟨x, M', rfl, hmu, hin', hrow, hon⟩ := hrel
              replace hmu := hide hmu
              by_cases hxn : x = -1
              · subst hxn
                have hneg : ¬ ((-1 : Int) ≥ 0) := by omega
                have hdn2 : Hid (DoneS sc O n b (i + 1) p M') := hide (by
                  rcases hin'.out with ⟨h1, h2, h3, -⟩ | ⟨h1, h2, h3⟩
                  · omega
                  · exact done_next hdn.out hx0'.out fun t ht => by rw [h3 t ht, walk_end hI'.out hok.out hn0.out hbO.out h2 (.inl rfl)])
                go_wp2
                go_roundw
                case rel => exact ⟨i + 1, M', by go_num, hlt2, hrow, hdn2, hon⟩
                case measure => simp [intOf]; omega
              · have hxb : 0 ≤ x ∧ x < n := by
                  rcases hin'.out with ⟨h1, h2, h3, h4, -⟩ | ⟨h1, h2, h3⟩
                  · omega
                  · rcases walk_bound hok.out h2 with h | h
                    · exact absurd h hxn
                    · exact ⟨h.1, h.2.1⟩
                obtain ⟨xn, rfl⟩ := Int.eq_ofNat_of_zero_le hxb.1
                have hxnn : xn < n := by omega
                have hxi : (xn : Int) < (n : Int) := hxb.2
                have hge : (xn : Int) ≥ 0 := by omega
                have rre1 := rre.out xn _ (hRat.out xn hxnn) V hon
                replace hxb := hide hxb
                by_cases hxO : (xn : Int) ∈ O
                · rw [decide_eq_true hxO] at rre1
                  have hwk : Hid (x0 ∈ O ∧ WalkS sc O l b x0 xn ∧ ∀ t : Nat, t < n → (M' t = true ↔ M t = true ∨ VisS sc O x0 xn t)) := hide (by
                    rcases hin'.out with ⟨h1, h2, -⟩ | h
                    · exact absurd (h1 ▸ hxO) h2
                    · exact h)
                  have rup1 := rup0 V hon
                  replace hxO := hide hxO
                  by_cases hstop : (xn : Int) = u ∧ b ≠ 0
                  · have h1b : ((xn : Int) != u) = false := by simp [hstop.1]
                    have h2b : ((b : Int) == 0) = false := by have := hstop.2; simp; omega
                    have hdn2 : Hid (DoneS sc O n b (i + 1) p M') := hide (done_next hdn.out hx0'.out fun t ht => by rw [hwk.out.2.2 t ht, walk_end hI'.out hok.out hn0.out hbO.out hwk.out.2.1 (.inr ⟨hstop.2, by rw [hu.out, hstop.1]⟩)])
                    replace hstop := hide hstop
                    go_wp2
                    go_roundw
                    case rel => exact ⟨i + 1, M', by go_num, hlt2, hrow, hdn2, hon⟩
                    case measure => simp [intOf]; omega
                  · have hgo : Hid (b = 0 ∨ l[b]? ≠ some (xn : Int)) := hide (by
                      by_cases h0 : b = 0
                      · exact .inl h0
                      · exact .inr fun h => hstop ⟨by rw [hu.out] at h; exact (Option.some.inj h).symm, h0⟩)
                    obtain ⟨v, hv⟩ := get_ex (l := l) (k := xn) (by omega)
                    have rup2 := rup.out xn v hv.out
                    have hws2 := hide (walk_step hI'.out hok.out hn0.out hwk.out.2.1 hgo.out hub.out hv.out)
                    have hmu2 : Hid (muW O v < gk) := hide (by
                      rw [← hmu.out]
                      unfold muW
                      rw [if_neg (show ¬ (xn : Int) = -1 by omega)]
                      split
                      · omega
                      · rename_i hv1
                        by_cases h0 : xn = 0
                        · subst h0
                          have := hI'.out.none_ 0 hxnn (.inr rfl)
                          rw [hv.out] at this
                          exact absurd (Option.some.inj this) hv1
                        · have := (up_parts hI'.out hok.out hn0.out hxO.out h0 hv.out).2.1
                          omega)
                    have hstop2 : Hid (¬ ((xn : Int) = u ∧ b ≠ 0)) := hide hstop
                    have hgo1 : ((xn : Int) != u) = true ∨ ((xn : Int) != u) = false ∧ ((b : Int) == 0) = true := by
                      by_cases e : (xn : Int) = u
                      · refine .inr ⟨by simp [e], ?_⟩
                        by_cases h0 : b = 0
                        · simp [h0]
                        · exact absurd ⟨e, h0⟩ hstop
                      · exact .inl (by simp [e])
                    obtain ⟨A7, C7, rc, fc, hown7, hGV, hq7⟩ := hrow.out.at_ (qM_at (q := frB sc O) (M := M') (n := n) (b := b) hxnn)
                    obtain ⟨L7, hL7⟩ : ∃ L7, Hid (L7 = qAt (frB sc O) xn b ++ if M' xn = true then [(b : Int)] else []) := ⟨_, hide rfl⟩
                    rw [← hL7.out] at rc hown7 hq7
                    have hL7l : L7.length ≤ 4000000 := by
                      rw [hL7.out, List.length_append]
                      have := qAt_len (q := frB sc O) (t := xn) (b := b)
                      split <;> simp <;> omega
                    have hhas : Hid (decide ((b : Int) ∈ L7) = M' xn) := hide (by
                      rw [← qM_has (q := frB sc O) (M := M') (n := n) (b := b) hxnn, ← hL7.out, List.contains_eq_mem])
                    have cCon := hide (contains_any (.slice A7 L7.length C7) L7 (b : Int) V V.heap.size (Nat.le_refl _) hown7.rep)
                    rw [hhas.out] at cCon
                    obtain ⟨m7, hm7⟩ : ∃ m7, Hid (m7 = L7.length) := ⟨_, hide rfl⟩
                    rw [← hm7.out] at rc hq7 hL7l cCon
                    have hOwn7 := hide hown7
                    replace hq7 := hide hq7
                    clear hstop hown7
                    have hVs := hon.size
                    rcases hgo1 with hg1 | ⟨hg1, hg2⟩
                    all_goals
                      go_upto_region 12 with (fail)
                      go_wp2_with (fail)
                      refine cCon.out.mono ?_
                      rintro e V2 ⟨rfl, hb9⟩
                      have hon2 := hon.then_below (Nat.le_refl _) hb9
                      have hrow2 := hide (hrow.out.below hb9)
                      have rup3 := rup2 V2 hon2
                      cases hMx : M' xn with
                      | true =>
                        have hin2 : Hid (InS sc O l n b M x0 v M') := hide (.inr ⟨hwk.out.1, hws2.out.1, fun t ht => by
                          rw [hws2.out.2 t, hwk.out.2.2 t ht]
                          constructor
                          · rintro (h | h)
                            · exact .inl h
                            · exact .inr (.inl h)
                          · rintro (h | h | h)
                            · exact .inl h
                            · exact .inr h
                            · have e : t = xn := by omega
                              subst e
                              exact (hwk.out.2.2 t ht).1 hMx⟩)
                        replace hMx := hide hMx
                        go_wp2
                        go_roundg (muW O v)
                        case measure => exact hmu2.out
                        case rel => exact ⟨v, M', rfl, rfl, hin2, hrow2, hon2⟩
                      | false =>
                        have hin2 : Hid (InS sc O l n b M x0 v (fun k => if k = xn then true else M' k)) := hide (.inr ⟨hwk.out.1, hws2.out.1, fun t ht => by
                          rw [hws2.out.2 t]
                          by_cases e : t = xn
                          · subst e; simp
                          · show (if t = xn then true else M' t) = true ↔ _
                            rw [if_neg e, hwk.out.2.2 t ht]
                            constructor
                            · rintro (h | h)
                              · exact .inl h
                              · exact .inr (.inl h)
                            · rintro (h | h | h)
                              · exact .inl h
                              · exact .inr h
                              · exact absurd (by omega) e⟩)
                        have hL7e : Hid (L7 = qAt (frB sc O) xn b) := hide (by rw [hL7.out, if_neg (by simp [hMx]), List.append_nil])
                        have hqm := qM_mark (q := frB sc O) (M := M') (n := n) (b := b) hxnn hMx
                        have rc2 := (hb9.cell (p := ⟨W.heap.size, xn, none⟩) hGV).trans rc
                        have fc2 := (hb9.frozen (p := ⟨W.heap.size, xn, none⟩) hGV).trans fc
                        have hown9 := hide (hOwn7.out.kept (w' := V2) fun q _ hq => hb9.block q hq)
                        have hV2s := hb9.size
                        have hXV2 := hon2.size
                        have hbI : Hid (I64 (b : Int)) := hide (i64_mk (by omega) (by omega))
                        have hrowat : Hid ((qM (frB sc O) M' n b)[xn]? = some L7) := hide (by rw [qM_at hxnn, hL7.out])
                        replace hMx := hide hMx
                        replace hqm := hide hqm
                        have rc3 := rc2
                        rw [hm7.out] at rc3
                        have rc3h := hide rc3
                        clear rc3
                        go_wp2_with (at_builtin
                                     refine wpList_append_lies _ rfl (.tmp 70) (.tmp 72) _ rfl X.heap.size 3 i0 _ 1 8 Try.underlying22 hi0.out hz0.out hz1.out hz2.out rfl (by omega) (.slice A7 m7 C7) m7 (L7.map fun z => Value.int .i64 z) rfl ?c0 ⟨V2.heap.size, 0, none⟩ 1 1 [.int .i64 (b : Int)] rfl rfl ?c1 ?c2 (by omega) ?c3 ?c4 ?c5 (V2.heap.size + 1) ?c6 ?_
                                     case c0 => rw [hm7.out]; exact hown9.out.row.alloc _
                                     case c1 => exact World.news_of_block (cs := #[.int .i64 (b : Int)]) (t := 3) (fr := (0, 0)) (heap_alloc_new V2 _)
                                     case c2 => simp [Value.oneCell']
                                     case c3 => unfold maxLen; omega
                                     case c4 => omega
                                     case c5 => simp; omega
                                     case c6 => simp
                                     intro gq cq w9 hown10 hg10 hgq hlt1
                                     have hGV2 : W.heap.size < V2.heap.size := by omega
                                     have kg : w9.heap[W.heap.size]? = V2.heap[W.heap.size]? := (hg10.block W.heap.size (by simp; omega) (fun e => (hq7.out W.heap.size e.symm).2.2 rfl)).trans (Below.heap_alloc _ _ _ hGV2)
                                     have rc4 := (World.cell?_of_block (a := ⟨W.heap.size, xn, none⟩) kg).trans rc2
                                     have fc4 : w9.frozen? ⟨W.heap.size, xn, none⟩ = false := by have hh := fc2; simp only [World.frozen?] at hh ⊢; rw [kg]; exact hh
                                     have hpush := RowsI.push (x := (b : Int)) (k := xn) (l := L7) hrow2.out ((Below.refl _ _).alloc (Nat.le_refl _) _) hrowat.out hbI.out rc3h.out (by rw [← hm7.out]; exact hg10) (by rw [← hm7.out]; exact hgq.imp id (fun h => by simp; omega)) (by rw [← hm7.out]; exact hown10)
                                     rw [← hm7.out, hL7e.out, hqm.out] at hpush
                                     have hon9 : Only (fun k => k = W.heap.size) X.heap.size X w9 := hon2.trans ⟨hg10.os, hg10.tape, hg10.output, by have := hg10.size; simp at this; omega, fun k hk _ => (hg10.block k (by simp; omega) (fun e => by have := (hq7.out k e.symm).1; omega)).trans (Below.heap_alloc _ _ _ (by omega))⟩
                                     have hon10 := hide (hon9.setCell (p := ⟨W.heap.size, xn, none⟩) (.inl rfl) (.slice (some ⟨gq, 0, none⟩) (m7 + 1) cq))
                                     have rup4 := rup2 _ hon10.out
                                     replace hpush := hide hpush
                                     replace hown10 := hide hown10
                                     replace hg10 := hide hg10
                                     replace hgq := hide hgq
                                     replace hlt1 := hide hlt1
                                     replace kg := hide kg
                                     clear hon9)
                        go_roundg (muW O v)
                        case measure => exact hmu2.out
                        case rel => exact ⟨v, _, rfl, rfl, hin2, hpush, hon10.out⟩
                · rw [decide_eq_false hxO] at rre1
                  have hdn2 : Hid (DoneS sc O n b (i + 1) p M') := hide (by
                    rcases hin'.out with ⟨h1, h2, h3, h4, h5⟩ | ⟨h1, h2, h3⟩
                    · exact done_next hdn.out hx0'.out fun t ht => by
                        rw [h5 t]
                        exact ⟨fun h => .inl h, fun h => h.resolve_right fun h9 => h2 h9.1.2.1⟩
                    · rcases walk_bound hok.out h2 with h | h
                      · omega
                      · exact absurd h.2.2 hxO)
                  replace hxO := hide hxO
                  go_wp2
                  go_roundw
                  case rel => exact ⟨i + 1, M', by go_num, hlt2, hrow, hdn2, hon⟩
                  case measure => simp [intOf]; omega
          · obtain rfl : i = p.length := by omega
            have hrow2 : Hid (RowsI V W.heap.size X.heap.size n (qL (frB sc O) n (b + 1))) := hide (by
              rw [← qM_end (M := M) fun t ht => ?_]
              · exact hrow.out
              · rw [Bool.eq_iff_iff, hdn.out t ht, frB_iff]
                constructor
                · rintro ⟨i', x, h1, h2, h3⟩
                  exact ⟨x, ((hpm.out x).1 (List.mem_of_getElem? h2)).2.2, h3⟩
                · rintro ⟨x, h1, h2⟩
                  have hxb := hok.out.bound x h2.1.2.1
                  obtain ⟨i', hi'⟩ := List.mem_iff_getElem?.1 ((hpm.out x).2 ⟨hxb.1, hxb.2, h1⟩)
                  exact ⟨i', x, (List.getElem?_eq_some_iff.1 hi').1, hi', h2⟩)
            go_wp2
            go_roundw
            case rel => exact ⟨b + 1, by go_num, hlt, hrow2, hon⟩
            case measure => simp [intOf]; omega
      · rw [decide_eq_false hbO] at rre0
        have hrow2 : Hid (RowsI V W.heap.size X.heap.size n (qL (frB sc O) n (b + 1))) := hide (by
          rw [← qM_end (M := fun _ => false) fun t ht => (frB_no fun h => hbO (fr_out hok.out h)).symm, qM_none]
          exact hrow.out)
        replace hbO := hide hbO
        go_wp2
        go_roundw
        case rel => exact ⟨b + 1, by go_num, hlt, hrow2, hon⟩
        case measure => simp [intOf]; omega
    · obtain rfl : b = n := by omega
      have hbV := hOX.out V hon
      have hself2 := Below.refl V.heap.size V
      replace hbV := hide hbV
      replace hon := hide hon
      go_wp2
      go_loopw [83] (fun s wr => ∃ k : Nat, s = .int .i64 k ∧ k ≤ b ∧ Below V.heap.size V wr) (fun s _ => b - (intOf s).toNat)
      case atStart => exact ⟨0, rfl, Nat.zero_le _, hself2⟩
      case round =>
        clear hself2
        rename World => Y
        obtain ⟨k, rfl, hk, hbel⟩ := hrel
        by_cases hlt9 : k < b
        · have hki : (k : Int) < (b : Int) := by omega
          have hrowY := hrow.out.below hbel
          obtain ⟨A7, C7, rc, fc, hown7, -, -⟩ := hrowY.at_ (qL_at (q := frB sc O) (n := b) (b := b) hlt9)
          have cS := hide (sort_sorted _ _ Y X.heap.size hown7 (qAt_sorted.imp fun h => by omega) (by have := qAt_len (q := frB sc O) (t := k) (b := b); omega))
          replace hown7 := hide hown7
          replace hrowY := hide hrowY
          go_wp2_with (go_at_call 120; refine cS.out.mono ?_; rintro e Y2 ⟨rfl, hb9⟩)
          have hbel2 := hbel.trans (hb9.mono hbel.size)
          go_roundw
          case rel => exact ⟨k + 1, by go_num, hlt9, hbel2⟩
          case measure => simp [intOf]; omega
        · obtain rfl : k = b := by omega
          obtain ⟨cs, hL⟩ := (hrow.out.below hbel).owned (by omega)
          have hfin := hide (hL.mono hws)
          have hbw := hide (hwW.out.trans ((hbV.out.trans (hbel.mono hbV.out.size)).mono hws))
          replace hL := hide hL
          go_wp2
          go_ret
          exact ⟨W.heap.size, cs, rfl, hfin.out, hbw.out⟩
end Go.Proofs.Yteeclobpajalmaa
