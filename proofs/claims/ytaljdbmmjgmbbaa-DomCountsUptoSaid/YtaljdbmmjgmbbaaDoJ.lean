/- Dominance, the plain side of the laws: one nearest dominator, order, going up, other numbers. No condition. -/
import Derived.Test.YtaljdbmmjgmbbaaDoF
import Derived.Test.YtaljdbmmjgmbbaaGrZa
namespace Go.Proofs.Ytaljdbmmjgmbbaa
set_option linter.unusedVariables false

section
variable {sc : Int → List Int} {o : List Int} {n : Nat} {l : List Int} {a b c : Int}
theorem Dom.refl_ (h : a ∈ o) : Dom sc o a a := ⟨h, h, fun h => h.free_ne rfl⟩
theorem Dom.self_iff : Dom sc o a a ↔ a ∈ o := ⟨fun h => h.1, Dom.refl_⟩
theorem Dom.zero_iff (h0 : (0 : Int) ∈ o) : Dom sc o 0 a ↔ a ∈ o := ⟨fun h => h.2.1, fun h => ⟨h0, h, fun h => rchW_zero h⟩⟩
theorem Dom.trans_ (h : Dom sc o a b) (h' : Dom sc o b c) : Dom sc o a c := ⟨h.1, h'.2.1, fun hr => by
  rcases hr.split b with h1 | h1
  · exact h.2.2 h1
  · exact h'.2.2 h1⟩
theorem Dom.anti_ (I : IdomOk sc o n l) (O : OrderOk n sc o) (hn : 0 < n) (h : Dom sc o a b) (h' : Dom sc o b a) : a = b :=
  (I.tree O hn).anti (ord_ok O hn) (I.alive O hn h.1) (I.alive O hn h.2.1) h.2.2 h'.2.2
theorem IdomOk.at_unique (I : IdomOk sc o n l) (O : OrderOk n sc o) {b : Nat} {u : Int} (hb : b < n) (hbo : (b : Int) ∈ o) (h0 : b ≠ 0) (hu : u ∈ o) (hne : u ≠ b) (hd : ¬ RchW sc u b) (hc : ∀ c, c ≠ (b : Int) → ¬ RchW sc c b → ¬ RchW sc c u) : l[b]? = some u := by
  obtain ⟨v, h3, h4, h5, h6, h7, h8⟩ := I.some_ b hb hbo h0
  have hn : 0 < n := by omega
  have : v = u := (I.tree O hn).anti (ord_ok O hn) (I.alive O hn h4) (I.alive O hn hu) (hc v h5 h7) (h8 u hne hd)
  rw [h3, this]
/-- going up, so far -/
def UpS (sc : Int → List Int) (o l : List Int) (a b x : Int) (i : Nat) : Prop :=
  (x = -1 ∧ ¬ Dom sc o a b) ∨ (x = b ∧ i = 0 ∧ b ∉ o) ∨ (x ∈ o ∧ b ∈ o ∧ o.idxOf x + i ≤ o.idxOf b ∧ (Dom sc o a b ↔ Anc (topF l) a x))
theorem ups_start (I : IdomOk sc o n l) (O : OrderOk n sc o) (hn : 0 < n) (ha : a ∈ o ∨ a ∉ o ∧ b ∉ o) : UpS sc o l a b b 0 := by
  by_cases hb : b ∈ o
  · rcases ha with ha | ha
    · exact .inr (.inr ⟨hb, hb, by omega, (show Dom sc o a b ↔ ¬ RchW sc a b from ⟨fun h => h.2.2, fun h => ⟨ha, hb, h⟩⟩).trans (I.anc O hn hb).symm⟩)
    · exact (ha.2 hb).elim
  · exact .inr (.inl ⟨rfl, rfl, hb⟩)
theorem ups_step (I : IdomOk sc o n l) (O : OrderOk n sc o) {x u : Int} {i : Nat} (h : UpS sc o l a b x i) (hx : 0 ≤ x) (hxn : x < n) (hne : x ≠ a) (hu : l[x.toNat]? = some u) : UpS sc o l a b u (i + 1) := by
  obtain ⟨xn, rfl⟩ := Int.eq_ofNat_of_zero_le hx
  rw [Int.toNat_natCast] at hu
  rcases h with ⟨h1, -⟩ | ⟨h1, h2, h3⟩ | ⟨h1, h2, h3, h4⟩
  · omega
  · subst h1
    have := I.none_ xn (by omega) (.inl h3)
    rw [hu] at this
    exact .inl ⟨Option.some.inj this, fun h => h3 h.2.1⟩
  · by_cases hz : xn = 0
    · subst hz
      have := I.none_ 0 (by omega) (.inr rfl)
      rw [hu] at this
      refine .inl ⟨Option.some.inj this, fun h => ?_⟩
      have := anc_zero.1 (h4.1 h)
      exact hne (by rw [this]; rfl)
    · obtain ⟨v, h5, h6, h7, h8, -⟩ := I.some_ xn (by omega) h1 hz
      rw [hu] at h5
      cases h5
      exact .inr (.inr ⟨h6, h2, by omega, h4.trans (anc_up hz hu hne)⟩)
theorem ups_neg {i : Nat} (h : UpS sc o l a b (-1) i) (O : OrderOk n sc o) (hb : 0 ≤ b) : ¬ Dom sc o a b := by
  rcases h with ⟨-, h⟩ | ⟨h1, h2, h3⟩ | ⟨h1, h2, h3, h4⟩
  · exact h
  · omega
  · exact fun _ => by have := O.bound _ h1; omega
theorem ups_cases {x : Int} {i : Nat} (h : UpS sc o l a b x i) (O : OrderOk n sc o) (hb : 0 ≤ b ∧ b < n) : x = -1 ∨ (0 ≤ x ∧ x < n ∧ i < n) := by
  rcases h with ⟨h1, -⟩ | ⟨h1, h2, h3⟩ | ⟨h1, h2, h3, h4⟩
  · exact .inl h1
  · exact .inr ⟨by omega, by omega, by omega⟩
  · have h5 := O.bound _ h1
    have h6 : o.idxOf b < o.length := List.idxOf_lt_length_iff.2 h2
    have h7 : o.length ≤ n := range_len n o O.nodup O.bound
    exact .inr ⟨h5.1, h5.2, by omega⟩
theorem ups_end {i : Nat} (h : UpS sc o l a b a i) (O : OrderOk n sc o) (ha : 0 ≤ a) : (Dom sc o a b ↔ (a ∈ o ∧ b ∈ o)) := by
  rcases h with ⟨h1, -⟩ | ⟨h1, h2, h3⟩ | ⟨h1, h2, h3, h4⟩
  · omega
  · subst h1; exact ⟨fun h => (h3 h.1).elim, fun h => (h3 h.1).elim⟩
  · exact ⟨fun h => ⟨h.1, h.2.1⟩, fun _ => h4.2 .refl⟩
theorem rchW_mv {A B : Int} (hA : 0 < A) (hB : 0 < B) {sc sc' : Int → List Int} (h : ∀ x, sc' (mv A B x) = (sc x).map (mv A B)) {c x : Int} (hr : RchW sc c x) : RchW sc' (mv A B c) (mv A B x) := by
  induction hr with
  | start h0 =>
    rw [mv_zero hA hB]
    refine .start fun e => h0 ?_
    rw [← mv_zero hA hB] at e
    exact mv_inj e
  | step _ h1 h2 ih => exact .step ih (by rw [h]; exact List.mem_map_of_mem h1) fun e => h2 (mv_inj e)
theorem rchW_mv_iff {A B : Int} (hA : 0 < A) (hB : 0 < B) {sc sc' : Int → List Int} (h : ∀ x, sc' (mv A B x) = (sc x).map (mv A B)) {c x : Int} : RchW sc' (mv A B c) (mv A B x) ↔ RchW sc c x := by
  refine ⟨fun hr => ?_, rchW_mv hA hB h⟩
  have h' : ∀ x, sc (mv A B x) = (sc' x).map (mv A B) := fun x => by
    have := h (mv A B x)
    rw [mv_mv] at this
    rw [this, List.map_map]
    have e : (mv A B) ∘ (mv A B) = id := by funext y; exact mv_mv A B y
    rw [e, List.map_id]
  have := rchW_mv hA hB h' hr
  rwa [mv_mv, mv_mv] at this
theorem idom_mv {A B : Nat} (hA : 0 < A ∧ A < n) (hB : 0 < B ∧ B < n) {sc' : Int → List Int} {l' : List Int} (h : ∀ x, sc' (mv A B x) = (sc x).map (mv A B)) (I : IdomOk sc o n l) (O : OrderOk n sc o) (I' : IdomOk sc' (o.map (mv A B)) n l') (O' : OrderOk n sc' (o.map (mv A B)))
    {x : Nat} (hx : x < n) {u : Int} (hu : l[x]? = some u) : l'[(mv A B x).toNat]? = some (mv A B u) := by
  have hA0 : (0 : Int) < A := by omega
  have hB0 : (0 : Int) < B := by omega
  have hm := (mv_in (a := (A : Int)) (b := (B : Int)) (x := (x : Int)) (n := n) (by omega) (by omega)).2 ⟨by omega, by omega⟩
  obtain ⟨y, hy⟩ := Int.eq_ofNat_of_zero_le hm.1
  have hyn : y < n := by omega
  have hmem : ∀ z : Int, mv A B z ∈ o.map (mv A B) ↔ z ∈ o := fun z => ⟨fun h => by
    obtain ⟨v, h1, h2⟩ := List.mem_map.1 h
    rw [← mv_inj h2]; exact h1, fun h => List.mem_map_of_mem h⟩
  have hne1 : mv A B (-1) = -1 := by unfold mv; rw [if_neg (by omega), if_neg (by omega)]
  have hz : y = 0 ↔ x = 0 := by
    constructor
    · intro e
      have e2 : mv A B (x : Int) = mv A B 0 := by rw [hy, e, mv_zero hA0 hB0]; rfl
      have := mv_inj e2
      omega
    · intro e
      rw [e] at hy
      have e2 : ((0 : Nat) : Int) = 0 := rfl
      rw [e2, mv_zero hA0 hB0] at hy
      omega
  rw [hy, Int.toNat_natCast]
  by_cases hxo : (x : Int) ∈ o ∧ x ≠ 0
  · obtain ⟨v, h3, h4, h5, h6, h7, h8⟩ := I.some_ x hx hxo.1 hxo.2
    rw [hu] at h3
    cases h3
    have hyo : (y : Int) ∈ o.map (mv A B) := by
      have := (hmem x).2 hxo.1
      rwa [hy] at this
    refine I'.at_unique O' hyn hyo (fun e => hxo.2 (hz.1 e)) ((hmem u).2 h4) (fun e => h5 (mv_inj (e.trans hy.symm))) (fun hr => h7 ?_) fun c hc hd hr => ?_
    · have hr' : RchW sc' (mv A B u) (mv A B x) := by rw [hy]; exact hr
      exact (rchW_mv_iff hA0 hB0 h).1 hr'
    · have hcm : mv A B (mv A B c) = c := mv_mv _ _ _
      rw [← hcm] at hr hd
      rw [← show mv A B (x : Int) = (y : Int) from hy] at hd
      exact h8 (mv A B c) (fun e => hc (by rw [← hcm, e, hy])) (fun h' => hd ((rchW_mv_iff hA0 hB0 h).2 h')) ((rchW_mv_iff hA0 hB0 h).1 hr)
  · have h1 := I.none_ x hx (by by_cases h0 : x = 0; exact .inr h0; exact .inl fun h2 => hxo ⟨h2, h0⟩)
    rw [hu] at h1
    cases h1
    rw [hne1]
    refine I'.none_ y hyn ?_
    by_cases h0 : x = 0
    · exact .inr (hz.2 h0)
    · refine .inl fun h2 => ?_
      rw [← hy] at h2
      exact hxo ⟨(hmem x).1 h2, h0⟩
end
end Go.Proofs.Ytaljdbmmjgmbbaa
