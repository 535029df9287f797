/- Which instructions are needed, and a function without the others, in plain Lean. No condition. -/
import Derived.Test.YtaljdbmmjgmbbaaIrDatc
namespace Go.Proofs.Ytaljdbmmjgmbbaa

def useR (x : Ins) (r : Int) : Bool := x.args.any fun v => usesReg v r
/-- needed, in a row of instructions -/
inductive Need (c : List Ins) : Ins → Prop
  | base {x : Ins} : x ∈ c → iidle x.op = false → Need c x
  | step {x y : Ins} : x ∈ c → iresult x.op x.ty ≠ 0 → Need c y → useR y x.reg = true → Need c x
theorem Need.mem {c : List Ins} {x : Ins} (h : Need c x) : x ∈ c := by cases h <;> assumption
open Classical in
noncomputable def needB (c : List Ins) (x : Ins) : Bool := decide (Need c x)
theorem needB_iff {c : List Ins} {x : Ins} : needB c x = true ↔ Need c x := by unfold needB; exact @decide_eq_true_iff _ (Classical.propDecidable _)
theorem needB_no {c : List Ins} {x : Ins} (h : ¬ Need c x) : needB c x = false := by rw [← Bool.not_eq_true, needB_iff]; exact h
noncomputable def cleanL (bs : List (List Ins)) : List (List Ins) := bs.map fun l => l.filter (needB bs.flatten)
noncomputable def rowN (c : List Ins) (l : List Ins) : List Bool := l.map (needB c)
theorem flatten_filter (q : Ins → Bool) : ∀ bs : List (List Ins), (bs.map fun l => l.filter q).flatten = bs.flatten.filter q
  | [] => rfl
  | l :: bs => by rw [List.map_cons, List.flatten_cons, List.flatten_cons, List.filter_append, flatten_filter q bs]
theorem cleanL_flatten (bs : List (List Ins)) : (cleanL bs).flatten = bs.flatten.filter (needB bs.flatten) := flatten_filter _ _
theorem need_again {c : List Ins} {x : Ins} (h : Need c x) : Need (c.filter (needB c)) x := by
  induction h with
  | base h1 h2 => exact .base (List.mem_filter.2 ⟨h1, needB_iff.2 (.base h1 h2)⟩) h2
  | step h1 h2 h3 h4 ih => exact .step (List.mem_filter.2 ⟨h1, needB_iff.2 (.step h1 h2 h3 h4)⟩) h2 ih h4
theorem clean_clean (bs : List (List Ins)) : cleanL (cleanL bs) = cleanL bs := by
  unfold cleanL
  rw [flatten_filter, List.map_map]
  refine List.map_congr_left fun l hl => ?_
  show (l.filter _).filter _ = _
  rw [List.filter_eq_self.2]
  intro x hx
  exact needB_iff.2 (need_again (needB_iff.1 (List.mem_filter.1 hx).2))

/-- the instruction at a place -/
def insAt (bs : List (List Ins)) (b i : Nat) : Option Ins := (bs.getD b [])[i]?
theorem insAt_of {bs : List (List Ins)} {b i : Nat} {l : List Ins} {x : Ins} (h : bs[b]? = some l) (k : l[i]? = some x) : insAt bs b i = some x := by
  unfold insAt; rw [getD_nil h]; exact k
theorem insAt_row {bs : List (List Ins)} {b i : Nat} {x : Ins} (h : insAt bs b i = some x) : ∃ l, bs[b]? = some l ∧ l[i]? = some x := by
  unfold insAt at h
  rcases Nat.lt_or_ge b bs.length with hb | hb
  · obtain ⟨l, hl⟩ : ∃ l, bs[b]? = some l := ⟨_, List.getElem?_eq_getElem hb⟩
    rw [getD_nil hl] at h
    exact ⟨l, hl, h⟩
  · rw [List.getD_eq_getElem?_getD, List.getElem?_eq_none hb] at h
    simp at h
theorem insAt_mem {bs : List (List Ins)} {b i : Nat} {x : Ins} (h : insAt bs b i = some x) : x ∈ bs.flatten := by
  obtain ⟨l, h1, h2⟩ := insAt_row h
  exact List.mem_flatten.2 ⟨l, List.mem_of_getElem? h1, List.mem_of_getElem? h2⟩
theorem mem_insAt {bs : List (List Ins)} {x : Ins} (h : x ∈ bs.flatten) : ∃ b i, insAt bs b i = some x := by
  obtain ⟨l, h1, h2⟩ := List.mem_flatten.1 h
  obtain ⟨b, hb⟩ := List.mem_iff_getElem?.1 h1
  obtain ⟨i, hi⟩ := List.mem_iff_getElem?.1 h2
  exact ⟨b, i, insAt_of hb hi⟩

/-- WHAT HOLDS WHILE THE WORK IS DONE: T: what is marked; W: the places left to do; ex: the place at hand -/
structure UInv (bs : List (List Ins)) (T : Nat → Nat → Bool) (W : List (Nat × Nat)) (ex : Nat → Nat → Prop) : Prop where
  sound : ∀ b i x, insAt bs b i = some x → T b i = true → Need bs.flatten x
  base : ∀ b i x, insAt bs b i = some x → iidle x.op = false → T b i = true
  work : ∀ p, p ∈ W → (∃ x, insAt bs p.1 p.2 = some x) ∧ T p.1 p.2 = true
  done : ∀ c j y, insAt bs c j = some y → T c j = true → (c, j) ∉ W → ¬ ex c j → ∀ b i x, insAt bs b i = some x → iresult x.op x.ty ≠ 0 → useR y x.reg = true → T b i = true
def setT (T : Nat → Nat → Bool) (b i : Nat) (a c : Nat) : Bool := if a = b ∧ c = i then true else T a c
theorem setT_self (T : Nat → Nat → Bool) (b i : Nat) : setT T b i b i = true := by simp [setT]
theorem setT_other {T : Nat → Nat → Bool} {b i a c : Nat} (h : ¬ (a = b ∧ c = i)) : setT T b i a c = T a c := by simp [setT, h]
theorem setT_mono {T : Nat → Nat → Bool} {b i a c : Nat} (h : T a c = true) : setT T b i a c = true := by unfold setT; split <;> simp [h]
section
variable {bs : List (List Ins)} {T : Nat → Nat → Bool} {W : List (Nat × Nat)} {ex : Nat → Nat → Prop}
theorem UInv.end_ (h : UInv bs T [] fun _ _ => False) {b i : Nat} {x : Ins} (hx : insAt bs b i = some x) : T b i = needB bs.flatten x := by
  rw [Bool.eq_iff_iff, needB_iff]
  refine ⟨h.sound b i x hx, fun hn => ?_⟩
  induction hn generalizing b i with
  | base h1 h2 => exact h.base _ _ _ hx h2
  | step h1 h2 h3 h4 ih =>
    obtain ⟨c, j, hy⟩ := mem_insAt h3.mem
    exact h.done c j _ hy (ih hy) (by simp) (fun e => e) b i _ hx h2 h4
theorem UInv.mark (h : UInv bs T W ex) {b i : Nat} {x : Ins} (hx : insAt bs b i = some x) (hn : Need bs.flatten x) : UInv bs (setT T b i) (W ++ [(b, i)]) ex where
  sound c j y hy ht := by
    by_cases e : c = b ∧ j = i
    · obtain ⟨rfl, rfl⟩ := e
      rw [hx] at hy; cases hy; exact hn
    · rw [setT_other e] at ht; exact h.sound c j y hy ht
  base c j y hy hi := setT_mono (h.base c j y hy hi)
  work p hp := by
    rcases List.mem_append.1 hp with hp | hp
    · exact ⟨(h.work p hp).1, setT_mono (h.work p hp).2⟩
    · simp only [List.mem_singleton] at hp
      subst hp
      exact ⟨⟨x, hx⟩, setT_self _ _ _⟩
  done c j y hy ht hw he b' i' x' hx' hr hu := by
    by_cases e : c = b ∧ j = i
    · obtain ⟨rfl, rfl⟩ := e
      exact absurd (List.mem_append.2 (.inr (by simp))) hw
    · rw [setT_other e] at ht
      exact setT_mono (h.done c j y hy ht (fun hm => hw (List.mem_append.2 (.inl hm))) he b' i' x' hx' hr hu)
theorem UInv.pop {b i : Nat} (h : UInv bs T (W ++ [(b, i)]) fun _ _ => False) : UInv bs T W fun c j => c = b ∧ j = i where
  sound := h.sound
  base := h.base
  work p hp := h.work p (List.mem_append.2 (.inl hp))
  done c j y hy ht hw he := h.done c j y hy ht (fun hm => by
    rcases List.mem_append.1 hm with hm | hm
    · exact hw hm
    · simp only [List.mem_singleton, Prod.mk.injEq] at hm
      exact he hm) (fun e => e)
theorem UInv.close {b i : Nat} {x : Ins} (h : UInv bs T W fun c j => c = b ∧ j = i) (hx : insAt bs b i = some x) (hc : ∀ v, v ∈ x.args → v.kind = 1 → ∀ c j y, insAt bs c j = some y → iresult y.op y.ty ≠ 0 → y.reg = v.num → T c j = true) : UInv bs T W fun _ _ => False where
  sound := h.sound
  base := h.base
  work := h.work
  done c j y hy ht hw _ b' i' x' hx' hr hu := by
    by_cases e : c = b ∧ j = i
    · obtain ⟨rfl, rfl⟩ := e
      rw [hx] at hy; cases hy
      obtain ⟨v, hv, hvr⟩ := List.any_eq_true.1 hu
      simp only [usesReg, Bool.and_eq_true, beq_iff_eq] at hvr
      exact hc v hv hvr.1 b' i' x' hx' hr hvr.2.symm
    · exact h.done c j y hy ht hw e b' i' x' hx' hr hu
end
/-- how many places of a function are not marked -/
def unmR (T : Nat → Bool) (n : Nat) : Nat := ((List.range n).filter fun i => !T i).length
def unm (len : Nat → Nat) (T : Nat → Nat → Bool) : Nat → Nat
  | 0 => 0
  | b + 1 => unm len T b + unmR (T b) (len b)
theorem unmR_set {T : Nat → Bool} {i : Nat} (h : T i = false) : ∀ {n : Nat}, i < n → unmR (fun j => if j = i then true else T j) n + 1 = unmR T n
  | n + 1, hi => by
    unfold unmR
    rw [List.range_succ, List.filter_append, List.filter_append, List.length_append, List.length_append]
    by_cases e : i = n
    · subst e
      have : ((List.range i).filter fun j => !(if j = i then true else T j)) = ((List.range i).filter fun j => !T j) := List.filter_congr fun j hj => by
        have := List.mem_range.1 hj
        rw [if_neg (by omega)]
      rw [this]
      simp [h]
    · have ih := unmR_set h (n := n) (by omega)
      unfold unmR at ih
      have e2 : ([n].filter fun j => !(if j = i then true else T j)) = [n].filter fun j => !T j := List.filter_congr fun j hj => by
        simp only [List.mem_singleton] at hj
        rw [if_neg (by omega)]
      rw [e2]
      omega
theorem unm_congr {len : Nat → Nat} {T T' : Nat → Nat → Bool} : ∀ {n : Nat}, (∀ b, b < n → T b = T' b) → unm len T n = unm len T' n
  | 0, _ => rfl
  | n + 1, h => by
    unfold unm
    rw [unm_congr (n := n) fun b hb => h b (by omega), h n (by omega)]
theorem unm_set {len : Nat → Nat} {T : Nat → Nat → Bool} {b i : Nat} (h : T b i = false) (hi : i < len b) : ∀ {n : Nat}, b < n → unm len (setT T b i) n + 1 = unm len T n
  | n + 1, hb => by
    unfold unm
    by_cases e : b = n
    · subst e
      have e1 : unm len (setT T b i) b = unm len T b := unm_congr fun c hc => by funext j; exact setT_other (by omega)
      have e2 : setT T b i b = fun j => if j = i then true else T b j := by funext j; simp [setT]
      rw [e1, e2]
      have := unmR_set h hi
      omega
    · have ih := unm_set (len := len) h hi (n := n) (by omega)
      have e2 : setT T b i n = T n := by funext j; exact setT_other (by omega)
      rw [e2]
      omega
theorem unmR_le (T : Nat → Bool) (n : Nat) : unmR T n ≤ n := by
  unfold unmR
  have := List.length_filter_le (fun i => !T i) (List.range n)
  simpa using this

/-- WHAT HOLDS WHILE THE MAKERS ARE GATHERED: of the places ahead of (b, i) -/
def aheadP (b i c j : Nat) : Prop := c < b ∨ c = b ∧ j < i
structure UPre (bs : List (List Ins)) (b i : Nat) (T : Nat → Nat → Bool) (W : List (Nat × Nat)) (mk : Int → List (Nat × Nat)) : Prop where
  marks : ∀ c j x, insAt bs c j = some x → aheadP b i c j → T c j = !iidle x.op
  rest : ∀ c j, ¬ aheadP b i c j → T c j = false
  works : ∀ p, p ∈ W ↔ aheadP b i p.1 p.2 ∧ ∃ x, insAt bs p.1 p.2 = some x ∧ iidle x.op = false
  makes : ∀ r p, p ∈ mk r ↔ aheadP b i p.1 p.2 ∧ ∃ x, insAt bs p.1 p.2 = some x ∧ iresult x.op x.ty ≠ 0 ∧ x.reg = r
  work_len : W.length ≤ (before bs b i).length
  mk_len : ∀ r, (mk r).length ≤ (before bs b i).length
def addMk (mk : Int → List (Nat × Nat)) (x : Ins) (b i : Nat) (r : Int) : List (Nat × Nat) := if iresult x.op x.ty ≠ 0 ∧ x.reg = r then mk r ++ [(b, i)] else mk r
section
variable {bs : List (List Ins)} {b i : Nat} {T : Nat → Nat → Bool} {W : List (Nat × Nat)} {mk : Int → List (Nat × Nat)}
theorem aheadP_step {c j : Nat} : aheadP b (i + 1) c j ↔ aheadP b i c j ∨ (c = b ∧ j = i) := by unfold aheadP; omega
theorem UPre.start (bs : List (List Ins)) : UPre bs 0 0 (fun _ _ => false) [] (fun _ => []) where
  marks c j x _ h := by unfold aheadP at h; omega
  rest _ _ _ := rfl
  works p := ⟨fun h => by simp at h, fun h => by have := h.1; unfold aheadP at this; omega⟩
  makes r p := ⟨fun h => by simp at h, fun h => by have := h.1; unfold aheadP at this; omega⟩
  work_len := Nat.zero_le _
  mk_len _ := Nat.zero_le _
theorem UPre.next (h : UPre bs b i T W mk) {x : Ins} (hx : insAt bs b i = some x) : UPre bs b (i + 1) (if iidle x.op = false then setT T b i else T) (if iidle x.op = false then W ++ [(b, i)] else W) (addMk mk x b i) := by
  obtain ⟨l, hl, hi⟩ := insAt_row hx
  have hlen : (before bs b (i + 1)).length = (before bs b i).length + 1 := by rw [before_step hl hi]; simp
  have hno : ¬ aheadP b i b i := by unfold aheadP; omega
  refine ⟨fun c j y hy ha => ?_, fun c j ha => ?_, fun p => ?_, fun r p => ?_, ?_, fun r => ?_⟩
  · by_cases e : c = b ∧ j = i
    · obtain ⟨rfl, rfl⟩ := e
      rw [hx] at hy; cases hy
      by_cases hd : iidle x.op = false
      · rw [if_pos hd, setT_self, hd]; rfl
      · rw [if_neg hd, h.rest _ _ hno]; simp at hd; rw [hd]; rfl
    · have ha' : aheadP b i c j := by rcases aheadP_step.1 ha with h1 | h1; exact h1; exact absurd h1 e
      split
      · rw [setT_other e]; exact h.marks c j y hy ha'
      · exact h.marks c j y hy ha'
  · have e : ¬ (c = b ∧ j = i) := fun e => ha (aheadP_step.2 (.inr e))
    have ha' : ¬ aheadP b i c j := fun h1 => ha (aheadP_step.2 (.inl h1))
    split
    · rw [setT_other e]; exact h.rest c j ha'
    · exact h.rest c j ha'
  · rw [aheadP_step]
    by_cases hd : iidle x.op = false
    · rw [if_pos hd, List.mem_append, h.works p, List.mem_singleton]
      constructor
      · rintro (⟨h1, h2⟩ | rfl)
        · exact ⟨.inl h1, h2⟩
        · exact ⟨.inr ⟨rfl, rfl⟩, x, hx, hd⟩
      · rintro ⟨h1 | ⟨h1, h2⟩, h3⟩
        · exact .inl ⟨h1, h3⟩
        · exact .inr (Prod.ext h1 h2)
    · rw [if_neg hd, h.works p]
      constructor
      · rintro ⟨h1, h2⟩; exact ⟨.inl h1, h2⟩
      · rintro ⟨h1 | ⟨h1, h2⟩, y, h3, h4⟩
        · exact ⟨h1, y, h3, h4⟩
        · rw [h1, h2, hx] at h3; cases h3; exact absurd h4 hd
  · rw [aheadP_step]
    unfold addMk
    by_cases hd : iresult x.op x.ty ≠ 0 ∧ x.reg = r
    · rw [if_pos hd, List.mem_append, h.makes r p, List.mem_singleton]
      constructor
      · rintro (⟨h1, h2⟩ | rfl)
        · exact ⟨.inl h1, h2⟩
        · exact ⟨.inr ⟨rfl, rfl⟩, x, hx, hd⟩
      · rintro ⟨h1 | ⟨h1, h2⟩, h3⟩
        · exact .inl ⟨h1, h3⟩
        · exact .inr (Prod.ext h1 h2)
    · rw [if_neg hd, h.makes r p]
      constructor
      · rintro ⟨h1, h2⟩; exact ⟨.inl h1, h2⟩
      · rintro ⟨h1 | ⟨h1, h2⟩, y, h3, h4⟩
        · exact ⟨h1, y, h3, h4⟩
        · rw [h1, h2, hx] at h3; cases h3; exact absurd h4 hd
  · have := h.work_len
    split
    · simp only [List.length_append, List.length_singleton]; omega
    · omega
  · have := h.mk_len r
    unfold addMk
    split
    · simp only [List.length_append, List.length_singleton]; omega
    · omega
theorem UPre.row (h : UPre bs b i T W mk) {l : List Ins} (hl : bs[b]? = some l) (hi : i = l.length) : UPre bs (b + 1) 0 T W mk := by
  subst hi
  have hb := before_next hl
  have ha : ∀ c j x, insAt bs c j = some x → (aheadP (b + 1) 0 c j ↔ aheadP b l.length c j) := fun c j x hx => by
    obtain ⟨l', h1, h2⟩ := insAt_row hx
    have := (List.getElem?_eq_some_iff.1 h2).1
    constructor
    · intro h3
      unfold aheadP at *
      by_cases e : c = b
      · subst e; rw [hl] at h1; cases h1; omega
      · omega
    · intro h3; unfold aheadP at *; omega
  refine ⟨fun c j x hx h1 => h.marks c j x hx ((ha c j x hx).1 h1), fun c j h1 => h.rest c j fun h2 => h1 ?_, fun p => ?_, fun r p => ?_, hb ▸ h.work_len, fun r => hb ▸ h.mk_len r⟩
  · unfold aheadP at *; omega
  · rw [h.works p]
    exact ⟨fun ⟨h1, x, hx, h2⟩ => ⟨(ha _ _ x hx).2 h1, x, hx, h2⟩, fun ⟨h1, x, hx, h2⟩ => ⟨(ha _ _ x hx).1 h1, x, hx, h2⟩⟩
  · rw [h.makes r p]
    exact ⟨fun ⟨h1, x, hx, h2⟩ => ⟨(ha _ _ x hx).2 h1, x, hx, h2⟩, fun ⟨h1, x, hx, h2⟩ => ⟨(ha _ _ x hx).1 h1, x, hx, h2⟩⟩
theorem UPre.end_ (h : UPre bs bs.length 0 T W mk) : UInv bs T W (fun _ _ => False) ∧ ∀ r p, p ∈ mk r ↔ ∃ x, insAt bs p.1 p.2 = some x ∧ iresult x.op x.ty ≠ 0 ∧ x.reg = r := by
  have ha : ∀ c j x, insAt bs c j = some x → aheadP bs.length 0 c j := fun c j x hx => by
    obtain ⟨l', h1, h2⟩ := insAt_row hx
    have := (List.getElem?_eq_some_iff.1 h1).1
    unfold aheadP; omega
  have hd : ∀ c j x, insAt bs c j = some x → T c j = true → iidle x.op = false := fun c j x hx ht => by
    rw [h.marks c j x hx (ha c j x hx)] at ht; simpa using ht
  refine ⟨⟨fun c j x hx ht => .base (insAt_mem hx) (hd c j x hx ht), fun c j x hx hi => by rw [h.marks c j x hx (ha c j x hx), hi]; rfl, fun p hp => ?_, fun c j y hy ht hw _ => ?_⟩, fun r p => ?_⟩
  · obtain ⟨h1, x, hx, h2⟩ := (h.works p).1 hp
    exact ⟨⟨x, hx⟩, by rw [h.marks _ _ x hx h1, h2]; rfl⟩
  · exact absurd ((h.works (c, j)).2 ⟨ha c j y hy, y, hy, hd c j y hy ht⟩) hw
  · rw [h.makes r p]
    exact ⟨fun h1 => h1.2, fun ⟨x, hx, h1⟩ => ⟨ha _ _ x hx, x, hx, h1⟩⟩
end
/-- work and what is not marked are together no more than all -/
theorem unm_start {bs : List (List Ins)} : ∀ {n : Nat}, n ≤ bs.length → ∀ T, unm (fun b => (bs.getD b []).length) T n ≤ (before bs n 0).length
  | 0, _, _ => Nat.zero_le _
  | n + 1, h, T => by
    obtain ⟨l, hl⟩ : ∃ l, bs[n]? = some l := ⟨_, List.getElem?_eq_getElem (by omega)⟩
    have ih := unm_start (bs := bs) (n := n) (by omega) T
    unfold unm
    rw [← before_next hl, before_len hl (Nat.le_refl _)]
    have := unmR_le (T n) (bs.getD n []).length
    rw [getD_nil hl] at this ⊢
    omega

/-- rows of truth by a table -/
theorem rows_end {bs : List (List Ins)} {T : Nat → Nat → Bool} (h : ∀ b i x, insAt bs b i = some x → T b i = needB bs.flatten x) {b : Nat} {l : List Ins} (hl : bs[b]? = some l) : (List.range l.length).map (T b) = rowN bs.flatten l := by
  refine List.ext_getElem? fun i => ?_
  unfold rowN
  rw [List.getElem?_map, List.getElem?_map]
  rcases Nat.lt_or_ge i l.length with hi | hi
  · obtain ⟨x, hx⟩ : ∃ x, l[i]? = some x := ⟨_, List.getElem?_eq_getElem hi⟩
    rw [hx, List.getElem?_range hi]
    simp [h b i x (insAt_of hl hx)]
  · rw [List.getElem?_eq_none (by simpa using hi), List.getElem?_eq_none hi]; rfl

end Go.Proofs.Ytaljdbmmjgmbbaa
