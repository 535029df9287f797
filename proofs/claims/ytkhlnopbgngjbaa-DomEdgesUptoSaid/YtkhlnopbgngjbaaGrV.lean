/- What is reachable without one block, by rounds; no program is in sight. No condition. -/
import Derived.Test.YtkhlnopbgngjbaaGrL
namespace Go.Proofs.Ytkhlnopbgngjbaa
set_option linter.unusedVariables false

/-- to be come to from block 0, by no way through 'gone' -/
inductive RchW (sc : Int → List Int) (gone : Int) : Int → Prop
  | start : gone ≠ 0 → RchW sc gone 0
  | step {x t : Int} : RchW sc gone x → t ∈ sc x → t ≠ gone → RchW sc gone t
theorem rchW_all {sc : Int → List Int} {n : Nat} (hs : ∀ b, SuccOk n (sc b)) (x : Int) : RchW sc (-1) x ↔ Rch sc x := by
  constructor
  · intro h
    induction h with
    | start => exact .start
    | step _ ht _ ih => exact .step ih ht
  · intro h
    induction h with
    | start => exact .start (by decide)
    | step _ ht ih => exact .step ih ht (by have := ((hs _).bound _ ht).1; omega)
/-- closed at block b, as far as its first i successors go -/
def ClosedAt (sc : Int → List Int) (gone : Int) (l : List Bool) (b i : Nat) : Prop := ∀ t : Nat, (t : Int) ∈ (sc b).take i → (t : Int) ≠ gone → l[t]? = some true
/-- within a round that began with l0 -/
structure WInv (sc : Int → List Int) (gone : Int) (n : Nat) (l0 l : List Bool) (more : Bool) (b : Nat) : Prop where
  len : l.length = n
  zero : l[0]? = some true
  sound : ∀ k : Nat, l[k]? = some true → RchW sc gone k
  same : more = false → l = l0
  le : l.count false ≤ l0.count false
  less : more = true → l.count false < l0.count false
  closed : more = false → ∀ b' : Nat, b' < b → l[b']? = some true → ClosedAt sc gone l b' (sc b').length
structure WInvI (sc : Int → List Int) (gone : Int) (n : Nat) (l0 l : List Bool) (more : Bool) (b i : Nat) : Prop where
  inv : WInv sc gone n l0 l more b
  here : more = false → ClosedAt sc gone l b i
/-- between two rounds -/
structure WOut (sc : Int → List Int) (gone : Int) (n : Nat) (l : List Bool) (more : Bool) : Prop where
  len : l.length = n
  zero : l[0]? = some true
  sound : ∀ k : Nat, l[k]? = some true → RchW sc gone k
  closed : more = false → ∀ b' : Nat, b' < n → l[b']? = some true → ClosedAt sc gone l b' (sc b').length
section
variable {sc : Int → List Int} {gone : Int} {n : Nat} {l0 l : List Bool} {more : Bool} {b i : Nat}
theorem wout_start (hn : 0 < n) (hg : gone ≠ 0) : WOut sc gone n ((List.replicate n false).set 0 true) true := by
  refine ⟨by simp, List.getElem?_set_self (by simpa using hn), fun k hk => ?_, fun h => by cases h⟩
  by_cases h0 : 0 = k
  · subst h0; exact .start hg
  · rw [List.getElem?_set_ne h0, List.getElem?_replicate] at hk
    split at hk <;> cases hk
theorem winv_start (h : WOut sc gone n l true) : WInv sc gone n l l false 0 :=
  ⟨h.len, h.zero, h.sound, fun _ => rfl, Nat.le_refl _, (fun h => by cases h), fun _ b' hb => by omega⟩
theorem winv_in (h : WInv sc gone n l0 l more b) : WInvI sc gone n l0 l more b 0 :=
  ⟨h, fun _ t ht => by rw [List.take_zero] at ht; cases ht⟩
theorem wI_skip {t : Nat} (h : WInvI sc gone n l0 l more b i) (ht : (sc b)[i]? = some (t : Int)) (hk : (t : Int) = gone ∨ l[t]? = some true) : WInvI sc gone n l0 l more b (i + 1) :=
  ⟨h.inv, fun hm t' ht' hg => by
    rw [List.take_add_one, ht] at ht'
    rcases List.mem_append.1 ht' with h1 | h1
    · exact h.here hm t' h1 hg
    · have e : (t' : Int) = t := by simpa using h1
      have e' : t' = t := by omega
      subst e'
      exact hk.resolve_left hg⟩
theorem wI_mark {t : Nat} (h : WInvI sc gone n l0 l more b i) (hb : l[b]? = some true) (ht : (sc b)[i]? = some (t : Int)) (hg : (t : Int) ≠ gone) (hm : l[t]? = some false) : WInvI sc gone n l0 (l.set t true) true b (i + 1) := by
  have hc := count_set hm
  have h1 := h.inv.le
  refine ⟨⟨by rw [List.length_set]; exact h.inv.len, ?_, fun k hk => ?_, (fun h => by cases h), by omega, fun _ => by omega, fun h => by cases h⟩, fun h => by cases h⟩
  · by_cases h0 : t = 0
    · subst h0; exact List.getElem?_set_self (List.getElem?_eq_some_iff.1 hm).1
    · rw [List.getElem?_set_ne h0]; exact h.inv.zero
  · by_cases h0 : t = k
    · subst h0; exact .step (h.inv.sound b hb) (List.mem_of_getElem? ht) hg
    · rw [List.getElem?_set_ne h0] at hk; exact h.inv.sound k hk
theorem wI_end (h : WInvI sc gone n l0 l more b (sc b).length) : WInv sc gone n l0 l more (b + 1) :=
  ⟨h.inv.len, h.inv.zero, h.inv.sound, h.inv.same, h.inv.le, h.inv.less, fun hm b' hb hl => by
    by_cases e : b' = b
    · subst e; exact h.here hm
    · exact h.inv.closed hm b' (by omega) hl⟩
theorem winv_dead (h : WInv sc gone n l0 l more b) (hb : l[b]? = some false) : WInv sc gone n l0 l more (b + 1) :=
  ⟨h.len, h.zero, h.sound, h.same, h.le, h.less, fun hm b' hb' hl => by
    by_cases e : b' = b
    · subst e; rw [hb] at hl; cases hl
    · exact h.closed hm b' (by omega) hl⟩
theorem winv_out (h : WInv sc gone n l0 l more n) : WOut sc gone n l more := ⟨h.len, h.zero, h.sound, h.closed⟩
theorem wout_end (hs : ∀ b, SuccOk n (sc b)) (h : WOut sc gone n l false) (k : Nat) : l[k]? = some true ↔ (k < n ∧ RchW sc gone k) := by
  have h1 : ∀ x, RchW sc gone x → l[x.toNat]? = some true := fun x hx => by
    induction hx with
    | start => exact h.zero
    | @step x t hx ht hg ih =>
      have hx0 : 0 ≤ x ∧ x.toNat < n := by
        cases hx with
        | start => exact ⟨by omega, by have := (List.getElem?_eq_some_iff.1 ih).1; have := h.len; omega⟩
        | step _ h1 _ => have := (hs _).bound _ h1; omega
      have ht0 := (hs x).bound t ht
      have h2 := h.closed rfl x.toNat hx0.2 ih t.toNat
      rw [Int.toNat_of_nonneg hx0.1, Int.toNat_of_nonneg ht0.1, List.take_length] at h2
      exact h2 ht hg
  exact ⟨fun hk => ⟨by have := (List.getElem?_eq_some_iff.1 hk).1; rw [h.len] at this; exact this, h.sound k hk⟩, fun hk => by have := h1 _ hk.2; rwa [Int.toNat_natCast] at this⟩
end
/-- what Without answers -/
structure WOk (sc : Int → List Int) (gone : Int) (n : Nat) (l : List Bool) : Prop where
  len : l.length = n
  iff : ∀ k : Nat, l[k]? = some true ↔ (k < n ∧ RchW sc gone k)
theorem wok_unique {sc : Int → List Int} {gone : Int} {n : Nat} {l l' : List Bool} (h : WOk sc gone n l) (h' : WOk sc gone n l') : l = l' := by
  refine List.ext_getElem? fun k => ?_
  have h1 := h.iff k
  have h2 := h'.iff k
  by_cases hk : k < n
  · obtain ⟨x, e1⟩ : ∃ x, l[k]? = some x := ⟨_, List.getElem?_eq_getElem (by rw [h.len]; exact hk)⟩
    obtain ⟨y, e2⟩ : ∃ y, l'[k]? = some y := ⟨_, List.getElem?_eq_getElem (by rw [h'.len]; exact hk)⟩
    rw [e1] at h1
    rw [e2] at h2
    rw [e1, e2]
    have h3 := h1.trans h2.symm
    cases x <;> cases y <;> simp_all
  · rw [List.getElem?_eq_none (by rw [h.len]; omega), List.getElem?_eq_none (by rw [h'.len]; omega)]
theorem wok_reach (bs : List (List Ins)) : WOk (succsF bs) (-1) bs.length (reachF bs) := by
  refine ⟨reach_len bs, fun k => ?_⟩
  by_cases hk : k < bs.length
  · rw [reach_at bs k hk, rchW_all (succsF_ok bs)]
    simp only [Option.some.injEq, decide_eq_true_eq]
    rw [(order_ok bs).mem]
    exact ⟨fun h => ⟨hk, h.2⟩, fun h => ⟨by omega, h.2⟩⟩
  · rw [List.getElem?_eq_none (by rw [reach_len]; omega)]
    exact ⟨(fun h => by cases h), fun h => absurd h.1 hk⟩
theorem wok_none {sc : Int → List Int} {gone : Int} {n : Nat} (h : n = 0 ∨ gone = 0) : WOk sc gone n (List.replicate n false) := by
  refine ⟨by simp, fun k => ⟨fun hk => ?_, fun hk => ?_⟩⟩
  · rw [List.getElem?_replicate] at hk
    split at hk <;> cases hk
  · rcases h with h | h
    · omega
    · exfalso
      have : ∀ x, RchW sc gone x → False := fun x hx => by
        induction hx with
        | start h0 => exact h0 h
        | step _ _ _ ih => exact ih
      exact this _ hk.2
end Go.Proofs.Ytkhlnopbgngjbaa
