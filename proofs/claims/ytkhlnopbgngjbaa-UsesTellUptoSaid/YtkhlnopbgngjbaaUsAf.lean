/- Rounds over a row of instructions till nothing more is needed, in plain Lean. No condition. -/
import Derived.Test.YtkhlnopbgngjbaaUsA
namespace Go.Proofs.Ytkhlnopbgngjbaa

/-- between two rounds -/
structure FOut (c : List Ins) (l : List Bool) (more : Bool) : Prop where
  len : l.length = c.length
  sound : ∀ (k : Nat) (x : Ins), c[k]? = some x → l[k]? = some true → Need c x
  base : ∀ (k : Nat) (x : Ins), c[k]? = some x → iidle x.op = false → l[k]? = some true
  closed : more = false → ∀ (k : Nat) (x : Ins), c[k]? = some x → l[k]? = some false → iresult x.op x.ty ≠ 0 → ∀ (j : Nat) (y : Ins), c[j]? = some y → l[j]? = some true → useR y x.reg = false
/-- in a round that began with l0, ahead of instruction i -/
structure FIn (c : List Ins) (l0 l : List Bool) (more : Bool) (i : Nat) : Prop where
  len : l.length = c.length
  sound : ∀ (k : Nat) (x : Ins), c[k]? = some x → l[k]? = some true → Need c x
  base : ∀ (k : Nat) (x : Ins), c[k]? = some x → iidle x.op = false → l[k]? = some true
  same : more = false → l = l0
  less : more = true → l.count false < l0.count false
  closed : more = false → ∀ (k : Nat) (x : Ins), k < i → c[k]? = some x → l[k]? = some false → iresult x.op x.ty ≠ 0 → ∀ (j : Nat) (y : Ins), c[j]? = some y → l[j]? = some true → useR y x.reg = false
/-- at instruction i, ahead of instruction k -/
structure FAt (c : List Ins) (l0 l : List Bool) (more : Bool) (i k : Nat) (x : Ins) : Prop where
  inn : FIn c l0 l more i
  here : l[i]? = some true → more = true
  non : l[i]? = some false → ∀ (j : Nat) (y : Ins), j < k → c[j]? = some y → l[j]? = some true → useR y x.reg = false
section
variable {c : List Ins} {l l0 : List Bool} {more : Bool} {i k : Nat} {x : Ins}
theorem FOut.start (h : FOut c l true) : FIn c l l false 0 := ⟨h.len, h.sound, h.base, fun _ => rfl, fun e => (by cases e), fun _ k x hk => by omega⟩
theorem FIn.out (h : FIn c l0 l more i) (hi : i = c.length) : FOut c l more := ⟨h.len, h.sound, h.base, fun e k x hk hl => h.closed e k x (by have := (List.getElem?_eq_some_iff.1 hk).1; omega) hk hl⟩
theorem FIn.skip (h : FIn c l0 l more i) (hx : c[i]? = some x) (hs : l[i]? = some true ∨ iresult x.op x.ty = 0) : FIn c l0 l more (i + 1) :=
  ⟨h.len, h.sound, h.base, h.same, h.less, fun e k y hk hy hl hr => by
    by_cases e2 : k = i
    · subst e2
      rw [hx] at hy; cases hy
      rcases hs with hs | hs
      · rw [hs] at hl; cases hl
      · exact absurd hs hr
    · exact h.closed e k y (by omega) hy hl hr⟩
theorem FIn.enter (h : FIn c l0 l more i) (hl : l[i]? = some false) : FAt c l0 l more i 0 x := ⟨h, fun e => (by rw [hl] at e; cases e), fun _ j y hj => by omega⟩
theorem FAt.skip (h : FAt c l0 l more i k x) {y : Ins} (hy : c[k]? = some y) (hs : l[k]? = some false ∨ useR y x.reg = false) : FAt c l0 l more i (k + 1) x :=
  ⟨h.inn, h.here, fun e j z hj hz hl => by
    by_cases e2 : j = k
    · subst e2
      rw [hy] at hz; cases hz
      rcases hs with hs | hs
      · rw [hs] at hl; cases hl
      · exact hs
    · exact h.non e j z (by omega) hz hl⟩
theorem count_set_false : ∀ {l : List Bool} {i : Nat}, l[i]? = some false → (l.set i true).count false + 1 = l.count false
  | b :: l, 0, h => by cases h; simp
  | b :: l, i + 1, h => by
    have := count_set_false (l := l) (i := i) (by simpa using h)
    simp only [List.set_cons_succ, List.count_cons]
    omega
theorem FAt.mark (h : FAt c l0 l more i k x) (hx : c[i]? = some x) (hr : iresult x.op x.ty ≠ 0) {y : Ins} (hy : c[k]? = some y) (hl : l[k]? = some true) (hu : useR y x.reg = true) : FAt c l0 (l.set i true) true i (k + 1) x := by
  have hi : i < l.length := by rw [h.inn.len]; exact (List.getElem?_eq_some_iff.1 hx).1
  refine ⟨⟨by simpa using h.inn.len, fun j z hz ht => ?_, fun j z hz hd => ?_, (fun e => by cases e), fun _ => ?_, fun e => by cases e⟩, fun _ => rfl, fun e => ?_⟩
  · by_cases e : i = j
    · subst e
      rw [hx] at hz; cases hz
      exact .step (List.mem_of_getElem? hx) hr (h.inn.sound k y hy hl) hu
    · rw [List.getElem?_set_ne e] at ht
      exact h.inn.sound j z hz ht
  · by_cases e : i = j
    · subst e; rw [List.getElem?_set_self hi]
    · rw [List.getElem?_set_ne e]; exact h.inn.base j z hz hd
  · obtain ⟨b, hb⟩ : ∃ b, l[i]? = some b := ⟨_, List.getElem?_eq_getElem hi⟩
    cases b with
    | true =>
      have e : l.set i true = l := by
        refine List.ext_getElem? fun j => ?_
        by_cases e : i = j
        · subst e; rw [List.getElem?_set_self hi, hb]
        · rw [List.getElem?_set_ne e]
      rw [e]
      exact h.inn.less (h.here hb)
    | false =>
      have h1 := count_set_false hb
      cases more with
      | true => have := h.inn.less rfl; omega
      | false => rw [← h.inn.same rfl]; omega
  · rw [List.getElem?_set_self hi] at e; cases e
theorem FAt.leave (h : FAt c l0 l more i k x) (hk : k = c.length) (hx : c[i]? = some x) : FIn c l0 l more (i + 1) :=
  ⟨h.inn.len, h.inn.sound, h.inn.base, h.inn.same, h.inn.less, fun e j z hj hz hl hr m y hy hm => by
    by_cases e2 : j = i
    · subst e2
      rw [hx] at hz; cases hz
      exact h.non hl m y (by have := (List.getElem?_eq_some_iff.1 hy).1; omega) hy hm
    · exact h.inn.closed e j z (by omega) hz hl hr m y hy hm⟩
theorem FOut.end_ (h : FOut c l false) : l = c.map (needB c) := by
  have hall : ∀ y, Need c y → ∀ (k : Nat), c[k]? = some y → l[k]? = some true := by
    intro y hy
    induction hy with
    | base h1 h2 => exact fun k hk => h.base k _ hk h2
    | step h1 h2 h3 h4 ih =>
      intro k hk
      obtain ⟨j, hj⟩ := List.mem_iff_getElem?.1 h3.mem
      obtain ⟨b, hb⟩ : ∃ b, l[k]? = some b := ⟨_, List.getElem?_eq_getElem (by rw [h.len]; exact (List.getElem?_eq_some_iff.1 hk).1)⟩
      cases b with
      | true => exact hb
      | false => have := h.closed rfl k _ hk hb h2 j _ hj (ih j hj); rw [h4] at this; cases this
  refine List.ext_getElem? fun k => ?_
  rw [List.getElem?_map]
  rcases Nat.lt_or_ge k c.length with hk | hk
  · obtain ⟨y, hy⟩ : ∃ y, c[k]? = some y := ⟨_, List.getElem?_eq_getElem hk⟩
    obtain ⟨b, hb⟩ : ∃ b, l[k]? = some b := ⟨_, List.getElem?_eq_getElem (by rw [h.len]; exact hk)⟩
    rw [hy, hb, Option.map_some, Option.some.injEq, Bool.eq_iff_iff, needB_iff]
    constructor
    · intro e; subst e; exact h.sound k y hy hb
    · intro e; have := hall y e k hy; rw [hb] at this; cases this; rfl
  · rw [List.getElem?_eq_none (by rw [h.len]; exact hk), List.getElem?_eq_none hk]; rfl
end
/-- ahead of the first round -/
def base0 (c : List Ins) (i : Nat) : List Bool := ((c.take i).map fun x => !iidle x.op) ++ List.replicate (c.length - i) false
theorem base0_step {c : List Ins} {i : Nat} {x : Ins} (h : c[i]? = some x) : (base0 c i).set i (!iidle x.op) = base0 c (i + 1) := by
  have hi := (List.getElem?_eq_some_iff.1 h).1
  have hl : ((c.take i).map fun x => !iidle x.op).length = i := by simp; omega
  unfold base0
  rw [show c.length - i = (c.length - (i + 1)) + 1 by omega, List.replicate_succ, List.set_append_right _ _ (by omega), hl, Nat.sub_self, List.set_cons_zero, take_snoc h, List.map_append, List.append_assoc]
  rfl
theorem base0_start (c : List Ins) : base0 c 0 = List.replicate c.length false := by simp [base0]
theorem base0_end (c : List Ins) : FOut c (base0 c c.length) true := by
  have e : base0 c c.length = c.map fun x => !iidle x.op := by simp [base0]
  rw [e]
  refine ⟨by simp, fun k x hx h => ?_, fun k x hx hd => by rw [List.getElem?_map, hx]; simp [hd], fun e => by cases e⟩
  rw [List.getElem?_map, hx] at h
  simp at h
  exact .base (List.mem_of_getElem? hx) h
end Go.Proofs.Ytkhlnopbgngjbaa
