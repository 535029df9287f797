/- Layers 9 and 12: better values have better bytes, and the other way; no program is in sight. No condition. -/
import Derived.Test.YtgkgmeofilkopaaMmC
namespace Go.Proofs.Ytgkgmeofilkopaa
set_option linter.unusedSimpArgs false
set_option linter.unusedVariables false

theorem rbyte_same {b c : Byt} (h : rbyte b c = true) (h0 : b.kind ≠ 0) (h3 : b.kind ≠ 3) : b = c := by
  unfold rbyte at h
  rw [if_neg (by simpa using h0), if_neg (by simpa using h3)] at h
  exact Byt.eqb_iff.1 h
theorem rbyte_three {b c : Byt} (h : rbyte b c = true) (h3 : b.kind = 3) : c.kind = 3 ∨ c.kind = 1 := by
  unfold rbyte at h
  rw [if_neg (by simp [h3]), if_pos (by simp [h3])] at h
  simpa using h
theorem rvalue_same {b c : Val} (h : rvalue b c = true) (h0 : b.kind ≠ 0) (h3 : b.kind ≠ 3) : b = c := by
  unfold rvalue at h
  rw [if_neg (by simpa using h0), if_neg (by simpa using h3)] at h
  exact Val.eqb_iff.1 h
theorem rvalue_three {b c : Val} (h : rvalue b c = true) (h3 : b.kind = 3) : c.kind ≠ 0 := by
  unfold rvalue at h
  rw [if_neg (by simp [h3]), if_pos (by simp [h3])] at h
  simpa using h
theorem rbyte_poison {b c : Byt} (h : b.kind = 0) : rbyte b c = true := by unfold rbyte; rw [if_pos (by simp [h])]
theorem rvalue_poison {b c : Val} (h : b.kind = 0) : rvalue b c = true := by unfold rvalue; rw [if_pos (by simp [h])]
theorem norm_kinds (t : Int) (v : Val) : (normS t v).kind = 0 ∨ ((normS t v).kind = 1 ∧ t ≠ 65) ∨ ((normS t v).kind = 2 ∧ t = 65) ∨ (normS t v).kind = 3 := by
  unfold normS
  split
  · refine .inr (.inl ⟨rfl, ?_⟩); omega
  · split
    · refine .inr (.inr (.inl ⟨rfl, ?_⟩)); omega
    · split
      · exact .inr (.inr (.inr rfl))
      · exact .inl rfl
theorem byteS_refines {t : Int} {v w : Val} (h : rvalue (normS t v) (normS t w) = true) (i : Nat) : rbyte (byteS t (normS t v) i) (byteS t (normS t w) i) = true := by
  rcases norm_kinds t v with k | ⟨k, _⟩ | ⟨k, _⟩ | k
  · exact rbyte_poison (by unfold byteS; rw [if_neg (by omega), if_neg (by omega), if_neg (by omega)])
  · rw [rvalue_same h (by omega) (by omega)]; exact rbyte_refl _
  · rw [rvalue_same h (by omega) (by omega)]; exact rbyte_refl _
  · by_cases h65 : t = 65
    · exact rbyte_poison (by unfold byteS; rw [if_neg (by omega), if_neg (by omega), if_neg (by omega)])
    · have e : byteS t (normS t v) i = ⟨3, 0, 0, 0, 0⟩ := by unfold byteS; rw [if_neg (by omega), if_neg (by omega), if_pos ⟨k, h65⟩]
      have k0 := rvalue_three h k
      rw [e]
      rcases norm_kinds t w with g | ⟨g, _⟩ | ⟨g, g'⟩ | g
      · exact absurd g k0
      · unfold byteS; rw [if_pos g]; unfold rbyte; simp
      · exact absurd g' h65
      · have e2 : byteS t (normS t w) i = ⟨3, 0, 0, 0, 0⟩ := by unfold byteS; rw [if_neg (by omega), if_neg (by omega), if_pos ⟨g, h65⟩]
        rw [e2]; exact rbyte_refl _
theorem pack_refines {t : Int} {v w : Val} (h : rvalue (normS t v) (normS t w) = true) {i : Nat} {b c : Byt} (hb : (packS t v)[i]? = some b) (hc : (packS t w)[i]? = some c) : rbyte b c = true := by
  unfold packS at hb hc
  rw [List.getElem?_map] at hb hc
  cases hr : (List.range (countS t).toNat)[i]? with
  | none => rw [hr] at hb; cases hb
  | some j =>
    rw [hr] at hb hc
    cases hb
    cases hc
    exact byteS_refines h j
theorem lists_same {a c : List Byt} (hl : a.length = c.length) (h : ∀ (i : Nat) b d, a[i]? = some b → c[i]? = some d → rbyte b d = true) (hk : ∀ b, b ∈ a → b.kind ≠ 0 ∧ b.kind ≠ 3) : a = c := by
  apply List.ext_getElem?
  intro i
  rcases Nat.lt_or_ge i a.length with hi | hi
  · have e1 := List.getElem?_eq_getElem hi
    have e2 := List.getElem?_eq_getElem (show i < c.length by omega)
    rw [e1, e2, rbyte_same (h i _ _ e1 e2) (hk _ (List.getElem_mem hi)).1 (hk _ (List.getElem_mem hi)).2]
  · rw [List.getElem?_eq_none hi, List.getElem?_eq_none (by omega)]
theorem okAddr_kinds {b0 : Byt} : ∀ {l : List Byt} {k : Nat}, okAddr b0 k l = true → ∀ b, b ∈ l → b.kind = 2
  | [], _, _, b, hb => by cases hb
  | c :: l, k, h, b, hb => by
    rw [okAddr, Bool.and_eq_true] at h
    rcases List.mem_cons.1 hb with rfl | hb
    · simp only [Bool.and_eq_true, beq_iff_eq] at h
      exact h.1.1.1.1
    · exact okAddr_kinds h.2 b hb
theorem unpack_refines {t : Int} {a c : List Byt} (hl : a.length = c.length) (h : ∀ (i : Nat) b d, a[i]? = some b → c[i]? = some d → rbyte b d = true) : rvalue (unpackS t a) (unpackS t c) = true := by
  by_cases hc : countS t = 0 ∨ countS t ≠ a.length
  · refine rvalue_poison ?_
    unfold unpackS
    rw [if_pos hc]
  by_cases h65 : t = 65
  · by_cases hok : okAddr (a.headD default) 0 a = true
    · rw [lists_same hl h (fun b hb => by have := okAddr_kinds hok b hb; omega)]
      exact rvalue_refl _
    · refine rvalue_poison ?_
      unfold unpackS
      rw [if_neg hc, if_pos h65, if_neg hok]
  · by_cases hal : (a.all fun b => b.kind == 1 || b.kind == 3) = true
    · by_cases han : (a.any fun b => b.kind == 3) = true
      · have e : unpackS t a = ⟨3, 0, 0, 0⟩ := by unfold unpackS; rw [if_neg hc, if_neg h65, if_pos hal, if_pos han]
        have hcl : (c.all fun b => b.kind == 1 || b.kind == 3) = true := by
          rw [List.all_eq_true]
          intro d hd
          obtain ⟨i, hi⟩ := List.mem_iff_getElem?.1 hd
          have hi' := (List.getElem?_eq_some_iff.1 hi).1
          have e1 := List.getElem?_eq_getElem (show i < a.length by omega)
          have hr := h i _ _ e1 hi
          have hk := List.all_eq_true.1 hal _ (List.getElem_mem (show i < a.length by omega))
          simp only [Bool.or_eq_true, beq_iff_eq] at hk
          rcases hk with hk | hk
          · rw [← rbyte_same hr (by omega) (by omega), hk]; rfl
          · rcases rbyte_three hr hk with g | g <;> rw [g] <;> rfl
        have hnz : (unpackS t c).kind ≠ 0 := by
          unfold unpackS
          rw [if_neg (by omega), if_neg h65, if_pos hcl]
          split
          · exact (by decide : (3 : Int) ≠ 0)
          · exact (by decide : (1 : Int) ≠ 0)
        rw [e]
        unfold rvalue
        rw [if_neg (by decide), if_pos (by decide)]
        simpa using hnz
      · rw [lists_same hl h (fun b hb => by
          have h1 := List.all_eq_true.1 hal b hb
          simp only [Bool.or_eq_true, beq_iff_eq] at h1
          have h3 : b.kind ≠ 3 := fun e => han (List.any_eq_true.2 ⟨b, hb, by simp [e]⟩)
          omega)]
        exact rvalue_refl _
    · refine rvalue_poison ?_
      unfold unpackS
      rw [if_neg hc, if_neg h65, if_neg hal]
end Go.Proofs.Ytgkgmeofilkopaa
