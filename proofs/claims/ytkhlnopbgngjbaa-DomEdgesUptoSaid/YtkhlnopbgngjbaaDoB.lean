/- Nearest dominators, the plain side: the order's ranks, the list that is kept, the list that is answered. No condition. -/
import Derived.Test.YtkhlnopbgngjbaaDoA
import Derived.Test.YtkhlnopbgngjbaaGrK
namespace Go.Proofs.Ytkhlnopbgngjbaa
set_option linter.unusedVariables false
set_option linter.unusedSimpArgs false

theorem idx_at : ∀ {O : List Int} (hd : O.Nodup) {i : Nat} {b : Int}, O[i]? = some b → O.idxOf b = i
  | [], _, _, _, h => by cases h
  | a :: O, hd, 0, b, h => by cases h; exact List.idxOf_cons_self
  | a :: O, hd, i + 1, b, h => by
    have h1 : O[i]? = some b := h
    have h2 := List.nodup_cons.1 hd
    have h3 : a ≠ b := fun e => h2.1 (e ▸ List.mem_of_getElem? h1)
    rw [List.idxOf_cons, beq_eq_false_iff_ne.2 h3, cond_false, idx_at h2.2 h1]
theorem at_idx {O : List Int} {b : Int} (h : b ∈ O) : O[O.idxOf b]? = some b := by
  have h1 := List.idxOf_lt_length_iff.2 h
  rw [List.getElem?_eq_getElem h1, List.getElem_idxOf]
theorem ord_ok {sc : Int → List Int} {n : Nat} {O : List Int} (h : OrderOk n sc O) (hn : 0 < n) : Ord sc O (fun b => O.idxOf b) := by
  have hz : O[0]? = some 0 := by
    have := h.head hn
    cases O with
    | nil => cases this
    | cons a O => exact this
  refine ⟨List.mem_of_getElem? hz, idx_at h.nodup hz, fun x => ⟨fun hx => ((h.mem x).1 hx).2, fun hx => (h.mem x).2 ⟨hn, hx⟩⟩, fun x y hx hy e => ?_, fun x hx => (h.bound x hx).1, fun b hb h0 => ?_⟩
  · have h1 := at_idx hx
    have h2 := at_idx hy
    have e' : O.idxOf x = O.idxOf y := e
    rw [e', h2] at h1
    exact (Option.some.inj h1).symm
  · obtain ⟨y, h1, p, q, h2, h3⟩ := h.ahead b hb h0
    obtain ⟨i, hi⟩ := List.getElem?_of_mem h3
    have hil := (List.getElem?_eq_some_iff.1 hi).1
    have e1 : O[i]? = some y := by rw [h2, List.getElem?_append_left hil]; exact hi
    have e2 : O[p.length]? = some b := by rw [h2, List.getElem?_append_right (Nat.le_refl _)]; simp
    refine ⟨y, List.mem_of_getElem? e1, h1, ?_⟩
    show O.idxOf y < O.idxOf b
    rw [idx_at h.nodup e1, idx_at h.nodup e2]
    exact hil

/-- the list that is kept, as a function -/
def upF (l : List Int) : Int → Int := fun b => if 0 ≤ b then l.getD b.toNat (-1) else -1
theorem upF_nat (l : List Int) (k : Nat) : upF l k = l.getD k (-1) := by unfold upF; rw [if_pos (by omega)]; simp
theorem upF_some {l : List Int} {k : Nat} {x : Int} (h : l[k]? = some x) : upF l k = x := by rw [upF_nat]; simp [h]
theorem upF_get {l : List Int} {b : Int} (h : 0 ≤ upF l b) : 0 ≤ b ∧ l[b.toNat]? = some (upF l b) := by
  unfold upF at h ⊢
  by_cases hb : 0 ≤ b
  · rw [if_pos hb] at h ⊢
    refine ⟨hb, ?_⟩
    rw [List.getD_eq_getElem?_getD] at h ⊢
    cases e : l[b.toNat]? with
    | none => rw [e] at h; simp at h
    | some x => simp
  · rw [if_neg hb] at h; omega
theorem upF_set {l : List Int} {k : Nat} (hk : k < l.length) (m : Int) : upF (l.set k m) = updF (upF l) k m := by
  funext b
  unfold upF updF
  show (if 0 ≤ b then (l.set k m).getD b.toNat (-1) else -1) = if b = (k : Int) then m else (if 0 ≤ b then l.getD b.toNat (-1) else -1)
  by_cases hb : 0 ≤ b
  · rw [if_pos hb]
    by_cases e : b = k
    · subst e
      rw [if_pos rfl]
      simp [hk]
    · rw [if_neg e, if_pos hb, List.getD_eq_getElem?_getD, List.getD_eq_getElem?_getD, List.getElem?_set_ne (by omega)]
  · rw [if_neg hb, if_neg (by omega), if_neg hb]
/-- the first list -/
def firstUp (n : Nat) : List Int := (List.replicate n (-1)).set 0 0
theorem first_st {sc : Int → List Int} {o : List Int} {rk : Int → Nat} {n : Nat} (O : Ord sc o rk) (hn : 0 < n) : St sc o rk 0 1 (upF (firstUp n)) := by
  have h0 : upF (firstUp n) 0 = 0 := upF_some (k := 0) (by unfold firstUp; rw [List.getElem?_set_self (by simpa using hn)])
  have h1 : ∀ x, x ≠ 0 → upF (firstUp n) x = -1 := fun x hx => by
    unfold upF firstUp
    by_cases hb : 0 ≤ x
    · rw [if_pos hb, List.getD_eq_getElem?_getD, List.getElem?_set_ne (by omega), List.getElem?_replicate]
      split <;> rfl
    · rw [if_neg hb]
  refine ⟨⟨O.zero, h0, O.first, fun b hb hb0 hu => ?_, fun b hb => h1 b (fun e => hb (e ▸ O.zero))⟩, fun b hb hb0 hr => ?_, fun k' e => by omega⟩
  · rw [h1 b hb0] at hu; omega
  · exact (hb0 (O.inj b 0 hb O.zero (by rw [O.first]; omega))).elim

theorem St.back {sc : Int → List Int} {o : List Int} {rk : Int → Nat} {k i j : Nat} {U : Int → Int} (S : St sc o rk (k + 1) i U) : St sc o rk k j U :=
  ⟨S.tree, fun b hb h0 _ => S.old k rfl b hb h0, fun k' e b hb h0 => by
    obtain ⟨h1, h2⟩ := S.old k rfl b hb h0
    exact ⟨h1, fun h => h2 (by rw [e]; exact h.more)⟩⟩
theorem updF_same {U : Int → Int} {b m : Int} (h : U b = m) : updF U b m = U := by
  funext x
  unfold updF
  split
  · rename_i e; rw [e, h]
  · rfl
theorem fix_one {sc : Int → List Int} {o : List Int} {rk : Int → Nat} (O : Ord sc o rk) (U : Int → Int) : Fix sc o rk U 1 := fun b hb h0 hr =>
  (h0 (O.inj b 0 hb O.zero (by rw [O.first]; omega))).elim
/-- a list in pass k, blocks of rank below i done -/
def Good (sc : Int → List Int) (o : List Int) (n k i : Nat) (l : List Int) : Prop := l.length = n ∧ (0 < n → St sc o (fun b => o.idxOf b) k i (upF l))
/-- what dom.Idom answers: nothing but this -/
structure IdomOk (sc : Int → List Int) (o : List Int) (n : Nat) (l : List Int) : Prop where
  len : l.length = n
  none_ : ∀ b : Nat, b < n → ((b : Int) ∉ o ∨ b = 0) → l[b]? = some (-1)
  some_ : ∀ b : Nat, b < n → (b : Int) ∈ o → b ≠ 0 → ∃ u : Int, l[b]? = some u ∧ u ∈ o ∧ u ≠ b ∧ o.idxOf u < o.idxOf (b : Int) ∧ ¬ RchW sc u b ∧ ∀ c, c ≠ (b : Int) → ¬ RchW sc c b → ¬ RchW sc c u
section
variable {sc : Int → List Int} {o : List Int} {n k : Nat} {l : List Int}
theorem idom_none (h0 : o = []) (hl : l.length = n) (hn : n = 0) : IdomOk sc o n l := by
  subst hn
  exact ⟨hl, fun b hb => by omega, fun b hb => by omega⟩
theorem idom_end (O : OrderOk n sc o) (hn : 0 < n) (hl : l.length = n) (S : St sc o (fun b => o.idxOf b) k o.length (upF l)) (F : Fix sc o (fun b => o.idxOf b) (upF l) o.length) : IdomOk sc o n (l.set 0 (-1)) := by
  have P := ord_ok O hn
  have hi : ∀ x, x ∈ o → o.idxOf x < o.length := fun x hx => List.idxOf_lt_length_iff.2 hx
  refine ⟨by simpa using hl, fun b hb h => ?_, fun b hb hbo hb0 => ?_⟩
  · by_cases h0 : b = 0
    · subst h0; rw [List.getElem?_set_self (by omega)]
    · rw [List.getElem?_set_ne (by omega)]
      have h1 := S.tree.out b (h.resolve_right h0)
      rw [upF_nat, List.getD_eq_getElem?_getD] at h1
      obtain ⟨x, hx⟩ : ∃ x, l[b]? = some x := ⟨_, List.getElem?_eq_getElem (by omega)⟩
      rw [hx] at h1 ⊢
      simpa using h1
  · have hb0' : (b : Int) ≠ 0 := by omega
    obtain ⟨h1, h2⟩ := S.lev b hbo hb0' (hi b hbo)
    obtain ⟨g1, g2, g3, g4⟩ := S.tree.up b hbo hb0' h1
    have h3 := (upF_get h1).2
    rw [List.getElem?_set_ne (by omega)]
    refine ⟨upF l b, by simpa using h3, g1, fun e => by rw [e] at g3; omega, g3, fun hr => ?_, g4⟩
    exact Fix.dom S P hi F hr (.up hb0' .refl)
theorem idom_done (O : OrderOk n sc o) (G : Good sc o n (k + 1) 1 l) (F : 0 < n → Fix sc o (fun b => o.idxOf b) (upF l) o.length) (hn : 0 < n) : IdomOk sc o n (l.set 0 (-1)) :=
  idom_end O hn G.1 (k := k) (G.2 hn).back (F hn)
theorem IdomOk.ok (I : IdomOk sc o n l) (O : OrderOk n sc o) : ∀ x, x ∈ l → -1 ≤ x ∧ x < n := fun x hx => by
  obtain ⟨i, hi⟩ := List.getElem?_of_mem hx
  have hil := (List.getElem?_eq_some_iff.1 hi).1
  rw [I.len] at hil
  by_cases h : (i : Int) ∈ o ∧ i ≠ 0
  · obtain ⟨u, h3, h4, -⟩ := I.some_ i hil h.1 h.2
    rw [hi] at h3
    cases h3
    have := O.bound x h4
    omega
  · have h3 := I.none_ i hil (by by_cases h0 : i = 0; exact .inr h0; exact .inl (fun h1 => h ⟨h1, h0⟩))
    rw [hi] at h3
    cases h3
    omega
/-- going up from b one meets just what dominates b -/
def topF (l : List Int) : Int → Int := fun b => if b = 0 then 0 else upF l b
theorem IdomOk.tree (I : IdomOk sc o n l) (O : OrderOk n sc o) (hn : 0 < n) : Tree sc o (fun b => o.idxOf b) (topF l) := by
  have P := ord_ok O hn
  have hal : ∀ x, x ∈ o → 0 ≤ topF l x := fun x hx => by
    unfold topF
    split
    · omega
    · rename_i h0
      obtain ⟨h1, h2⟩ := O.bound x hx
      obtain ⟨u, h3, h4, -⟩ := I.some_ x.toNat (by omega) (by rwa [Int.toNat_of_nonneg h1]) (by omega)
      have := upF_some h3
      rw [Int.toNat_of_nonneg h1] at this
      rw [this]
      exact P.pos u h4
  refine ⟨P.zero, if_pos rfl, P.first, fun b hb h0 hu => ?_, fun b hb => ?_⟩
  · obtain ⟨h1, h2⟩ := O.bound b hb
    obtain ⟨bn, rfl⟩ := Int.eq_ofNat_of_zero_le h1
    obtain ⟨u, h3, h4, h5, h6, h7, h8⟩ := I.some_ bn (by omega) hb (by omega)
    rw [show topF l (bn : Int) = u from by unfold topF; rw [if_neg h0]; exact upF_some h3]
    exact ⟨h4, hal u h4, h6, h8⟩
  · have h0 : b ≠ 0 := fun e => hb (e ▸ P.zero)
    unfold topF
    rw [if_neg h0]
    by_cases hb1 : 0 ≤ b ∧ b < n
    · obtain ⟨bn, rfl⟩ := Int.eq_ofNat_of_zero_le hb1.1
      exact upF_some (I.none_ bn (by omega) (.inl hb))
    · unfold upF
      split
      · rw [List.getD_eq_getElem?_getD, List.getElem?_eq_none (by have := I.len; omega)]; rfl
      · rfl
theorem IdomOk.alive (I : IdomOk sc o n l) (O : OrderOk n sc o) (hn : 0 < n) {x : Int} (hx : x ∈ o) : 0 ≤ topF l x := by
  have P := ord_ok O hn
  unfold topF
  split
  · omega
  · rename_i h0
    obtain ⟨h1, h2⟩ := O.bound x hx
    obtain ⟨u, h3, h4, -⟩ := I.some_ x.toNat (by omega) (by rwa [Int.toNat_of_nonneg h1]) (by omega)
    have := upF_some h3
    rw [Int.toNat_of_nonneg h1] at this
    rw [this]
    exact P.pos u h4
theorem IdomOk.anc (I : IdomOk sc o n l) (O : OrderOk n sc o) (hn : 0 < n) {a b : Int} (hb : b ∈ o) : Anc (topF l) a b ↔ ¬ RchW sc a b := by
  have T := I.tree O hn
  refine ⟨fun h => T.dom (fun x hx h0 => ?_) h (I.alive O hn hb), fun h => T.above (I.alive O hn hb) h⟩
  obtain ⟨h1, h2⟩ := O.bound x hx
  obtain ⟨xn, rfl⟩ := Int.eq_ofNat_of_zero_le h1
  obtain ⟨u, h3, h4, h5, h6, h7, h8⟩ := I.some_ xn (by omega) hx (by omega)
  rwa [show topF l (xn : Int) = u from by unfold topF; rw [if_neg h0]; exact upF_some h3]
end
end Go.Proofs.Ytkhlnopbgngjbaa
