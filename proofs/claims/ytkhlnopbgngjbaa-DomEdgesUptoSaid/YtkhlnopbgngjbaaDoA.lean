/- Nearest dominators by two fingers, the plain side: trees over an order, ways with so many steps back. No condition. -/
import Derived.Test.YtkhlnopbgngjbaaGrV
namespace Go.Proofs.Ytkhlnopbgngjbaa
set_option linter.unusedVariables false

section
variable {sc : Int → List Int} {rk : Int → Nat} {c x b : Int} {j k : Nat}
/-- to be come to from block 0 without c, with at most j steps that need not go forward -/
inductive RchK (sc : Int → List Int) (rk : Int → Nat) (c : Int) : Nat → Int → Prop
  | start {j : Nat} : c ≠ 0 → RchK sc rk c j 0
  | fwd {j : Nat} {x t : Int} : RchK sc rk c j x → t ∈ sc x → t ≠ c → rk x < rk t → RchK sc rk c j t
  | back {j : Nat} {x t : Int} : RchK sc rk c j x → t ∈ sc x → t ≠ c → RchK sc rk c (j + 1) t
theorem RchK.more (h : RchK sc rk c j x) : RchK sc rk c (j + 1) x := by
  induction h with
  | start h => exact .start h
  | fwd _ h1 h2 h3 ih => exact .fwd ih h1 h2 h3
  | back _ h1 h2 ih => exact .back ih h1 h2
theorem RchK.le (h : RchK sc rk c j x) (hk : j ≤ k) : RchK sc rk c k x := by
  obtain ⟨d, rfl⟩ : ∃ d, k = j + d := ⟨k - j, by omega⟩
  clear hk
  induction d with
  | zero => exact h
  | succ d ih => exact ih.more
theorem RchK.free (h : RchK sc rk c j x) : RchW sc c x := by
  induction h with
  | start h => exact .start h
  | fwd _ h1 h2 h3 ih => exact .step ih h1 h2
  | back _ h1 h2 ih => exact .step ih h1 h2
theorem RchW.free_ne (h : RchW sc c x) : x ≠ c := by
  cases h with
  | start h => exact fun e => h e.symm
  | step _ _ h => exact h
theorem RchW.rch (h : RchW sc c x) : Rch sc x := by
  induction h with
  | start h => exact .start
  | step _ h1 _ ih => exact .step ih h1
theorem RchW.split (h : RchW sc c b) (x : Int) : RchW sc c x ∨ RchW sc x b := by
  induction h with
  | start h =>
    by_cases hx : x = 0
    · subst hx; exact .inl (.start h)
    · exact .inr (.start hx)
  | @step y t h0 h1 h2 ih =>
    rcases ih with ih | ih
    · exact .inl ih
    · by_cases hx : t = x
      · subst hx; exact .inl (.step h0 h1 h2)
      · exact .inr (.step ih h1 hx)
theorem RchK.split (h : RchK sc rk c j b) (x : Int) : RchK sc rk c j x ∨ RchK sc rk x j b := by
  induction h with
  | start h =>
    by_cases hx : x = 0
    · subst hx; exact .inl (.start h)
    · exact .inr (.start hx)
  | @fwd j y t h0 h1 h2 h3 ih =>
    rcases ih with ih | ih
    · exact .inl ih
    · by_cases hx : t = x
      · subst hx; exact .inl (.fwd h0 h1 h2 h3)
      · exact .inr (.fwd ih h1 hx h3)
  | @back j y t h0 h1 h2 ih =>
    rcases ih with ih | ih
    · exact .inl ih.more
    · by_cases hx : t = x
      · subst hx; exact .inl (.back h0 h1 h2)
      · exact .inr (.back ih h1 hx)
theorem RchW.some_k (rk : Int → Nat) (h : RchW sc c x) : ∃ j, RchK sc rk c j x := by
  induction h with
  | start h => exact ⟨0, .start h⟩
  | step _ h1 h2 ih =>
    obtain ⟨j, ih⟩ := ih
    exact ⟨j + 1, .back ih h1 h2⟩
theorem most_k (sc : Int → List Int) (rk : Int → Nat) : ∀ l : List (Int × Int), ∃ K, ∀ p, p ∈ l → RchW sc p.1 p.2 → RchK sc rk p.1 K p.2
  | [] => ⟨0, fun p hp => by cases hp⟩
  | q :: l => by
    obtain ⟨K, hK⟩ := most_k sc rk l
    by_cases hq : RchW sc q.1 q.2
    · obtain ⟨j, hj⟩ := hq.some_k rk
      refine ⟨K + j, fun p hp h => ?_⟩
      rcases List.mem_cons.1 hp with rfl | hp
      · exact hj.le (by omega)
      · exact (hK p hp h).le (by omega)
    · refine ⟨K, fun p hp h => ?_⟩
      rcases List.mem_cons.1 hp with rfl | hp
      · exact (hq h).elim
      · exact hK p hp h
theorem steps_k (sc : Int → List Int) (rk : Int → Nat) (o : List Int) : ∃ K, ∀ a b, a ∈ o → b ∈ o → RchW sc a b → RchK sc rk a K b := by
  obtain ⟨K, hK⟩ := most_k sc rk (o.flatMap fun a => o.map fun b => (a, b))
  exact ⟨K, fun a b ha hb h => hK (a, b) (List.mem_flatMap.2 ⟨a, ha, List.mem_map.2 ⟨b, hb, rfl⟩⟩) h⟩
end

/-- a stands above b, or is it, by the nearest ones -/
inductive Anc (U : Int → Int) (a : Int) : Int → Prop
  | refl : Anc U a a
  | up {b : Int} : b ≠ 0 → Anc U a (U b) → Anc U a b
theorem Anc.trans {U : Int → Int} {a b c : Int} (h : Anc U a b) (h' : Anc U b c) : Anc U a c := by
  induction h' with
  | refl => exact h
  | up h0 _ ih => exact .up h0 ih

structure Tree (sc : Int → List Int) (o : List Int) (rk : Int → Nat) (U : Int → Int) : Prop where
  zero : (0 : Int) ∈ o
  root : U 0 = 0
  first : rk 0 = 0
  up : ∀ b, b ∈ o → b ≠ 0 → 0 ≤ U b → U b ∈ o ∧ 0 ≤ U (U b) ∧ rk (U b) < rk b ∧ ∀ c, c ≠ b → ¬ RchW sc c b → ¬ RchW sc c (U b)
  out : ∀ b, b ∉ o → U b = -1

section
variable {sc : Int → List Int} {o : List Int} {rk : Int → Nat} {U : Int → Int} {a b c m p : Int} {j k i : Nat}
theorem Tree.mem (T : Tree sc o rk U) (h : 0 ≤ U b) : b ∈ o := by
  by_cases hb : b ∈ o
  · exact hb
  · rw [T.out b hb] at h; omega
theorem Tree.anc (T : Tree sc o rk U) (h : Anc U a b) (hb : 0 ≤ U b) : 0 ≤ U a ∧ rk a ≤ rk b := by
  induction h with
  | refl => exact ⟨hb, Nat.le_refl _⟩
  | @up b h0 _ ih =>
    obtain ⟨h1, h2, h3, -⟩ := T.up b (T.mem hb) h0 hb
    obtain ⟨h4, h5⟩ := ih h2
    exact ⟨h4, by omega⟩
theorem Tree.above (T : Tree sc o rk U) (hb : 0 ≤ U b) (h : ¬ RchW sc c b) : Anc U c b := by
  obtain ⟨r, hr⟩ : ∃ r, r = rk b := ⟨_, rfl⟩
  induction r using Nat.strongRecOn generalizing b with
  | ind r ih =>
    by_cases hcb : c = b
    · rw [hcb]; exact .refl
    by_cases h0 : b = 0
    · subst h0
      exact (h (.start hcb)).elim
    · obtain ⟨h1, h2, h3, h4⟩ := T.up b (T.mem hb) h0 hb
      exact .up h0 (ih (rk (U b)) (by omega) h2 (h4 c hcb h) rfl)
theorem Tree.between (T : Tree sc o rk U) (h : Anc U m p) (hp : 0 ≤ U p) (hc : Anc U c m) (hd : ¬ RchW sc c p) : ¬ RchW sc c m := by
  induction h with
  | refl => exact hd
  | @up p h0 hm ih =>
    obtain ⟨h1, h2, h3, h4⟩ := T.up p (T.mem hp) h0 hp
    have h5 := T.anc hm h2
    have h6 := T.anc hc h5.1
    exact ih h2 (h4 c (fun e => by subst e; omega) hd)
theorem Tree.lev (T : Tree sc o rk U) (h : Anc U a b) (hb : 0 ≤ U b) (hl : ∀ x, 0 ≤ U x → x ≠ 0 → rk x ≤ rk b → ¬ RchK sc rk (U x) j x) : ¬ RchK sc rk a j b := by
  induction h with
  | refl => exact fun h => h.free.free_ne rfl
  | @up b h0 hm ih =>
    obtain ⟨h1, h2, h3, h4⟩ := T.up b (T.mem hb) h0 hb
    intro hr
    rcases hr.split (U b) with hr | hr
    · exact ih h2 (fun x a b c => hl x a b (by omega)) hr
    · exact hl b hb h0 (Nat.le_refl _) hr
theorem Tree.dom (T : Tree sc o rk U) (hd : ∀ x, x ∈ o → x ≠ 0 → ¬ RchW sc (U x) x) (h : Anc U a b) (hb : 0 ≤ U b) : ¬ RchW sc a b := by
  induction h with
  | refl => exact fun h => h.free_ne rfl
  | @up b h0 hm ih =>
    obtain ⟨h1, h2, h3, h4⟩ := T.up b (T.mem hb) h0 hb
    intro hr
    rcases hr.split (U b) with hr | hr
    · exact ih h2 hr
    · exact hd b (T.mem hb) h0 hr
/-- the nearest one above both -/
def Nca (U : Int → Int) (a b m : Int) : Prop := Anc U m a ∧ Anc U m b ∧ ∀ c, Anc U c a → Anc U c b → Anc U c m
theorem Tree.climb (T : Tree sc o rk U) (ha : 0 ≤ U a) (hb : 0 ≤ U b) (hr : rk b < rk a) : a ≠ 0 ∧ 0 ≤ U (U a) ∧ rk (U a) < rk a ∧ ∀ c, Anc U c a → Anc U c b → Anc U c (U a) := by
  have h0 : a ≠ 0 := fun e => by rw [e, T.first] at hr; omega
  obtain ⟨h1, h2, h3, -⟩ := T.up a (T.mem ha) h0 ha
  refine ⟨h0, h2, h3, fun c h4 h5 => ?_⟩
  cases h4 with
  | refl => have := T.anc h5 hb; omega
  | up _ h => exact h
/-- the fold over predecessors, so far -/
def Best (U : Int → Int) (ps : List Int) (m : Int) : Prop :=
  (m = -1 ∧ ∀ p, p ∈ ps → U p < 0) ∨ (0 ≤ m ∧ 0 ≤ U m ∧ (∃ p, p ∈ ps ∧ 0 ≤ U p) ∧ (∀ p, p ∈ ps → 0 ≤ U p → Anc U m p) ∧ ∀ c, (∀ p, p ∈ ps → 0 ≤ U p → Anc U c p) → Anc U c m)
theorem best_nil : Best U [] (-1) := .inl ⟨rfl, fun p hp => by cases hp⟩
theorem Best.skip {ps : List Int} (h : Best U ps m) (hp : U p < 0) : Best U (ps ++ [p]) m := by
  have hx : ∀ q, q ∈ ps ++ [p] → 0 ≤ U q → q ∈ ps := fun q hq h1 => by
    rcases List.mem_append.1 hq with h2 | h2
    · exact h2
    · rw [List.mem_singleton.1 h2] at h1; omega
  rcases h with ⟨h1, h2⟩ | ⟨h0, h1, ⟨q, h2, h3⟩, h4, h5⟩
  · refine .inl ⟨h1, fun q hq => ?_⟩
    rcases List.mem_append.1 hq with h3 | h3
    · exact h2 q h3
    · rw [List.mem_singleton.1 h3]; exact hp
  · exact .inr ⟨h0, h1, ⟨q, List.mem_append_left _ h2, h3⟩, fun q hq h => h4 q (hx q hq h) h, fun c hc => h5 c fun q hq h => hc q (List.mem_append_left _ hq) h⟩
theorem Best.first {ps : List Int} (h : Best U ps m) (hm : m < 0) (hp0 : 0 ≤ p) (hp : 0 ≤ U p) : Best U (ps ++ [p]) p := by
  rcases h with ⟨h1, h2⟩ | ⟨h0, -⟩
  · refine .inr ⟨hp0, hp, ⟨p, by simp, hp⟩, fun q hq h => ?_, fun c hc => hc p (by simp) hp⟩
    rcases List.mem_append.1 hq with h3 | h3
    · have := h2 q h3; omega
    · rw [List.mem_singleton.1 h3]; exact .refl
  · omega
theorem Best.next {ps : List Int} {m' : Int} (h : Best U ps m) (hm : 0 ≤ m) (hp : 0 ≤ U p) (hn : Nca U m p m') (h0' : 0 ≤ m') (hU : 0 ≤ U m') : Best U (ps ++ [p]) m' := by
  rcases h with ⟨h1, h2⟩ | ⟨h0, h1, ⟨q, h2, h3⟩, h4, h5⟩
  · omega
  · obtain ⟨n1, n2, n3⟩ := hn
    refine .inr ⟨h0', hU, ⟨p, by simp, hp⟩, fun q hq h => ?_, fun c hc => ?_⟩
    · rcases List.mem_append.1 hq with h6 | h6
      · exact n1.trans (h4 q h6 h)
      · rw [List.mem_singleton.1 h6]; exact n2
    · exact n3 c (h5 c fun q hq h => hc q (List.mem_append_left _ hq) h) (hc p (by simp) hp)
theorem Best.alive {ps : List Int} (h : Best U ps m) (hm : 0 ≤ m) : 0 ≤ U m := by
  rcases h with ⟨h1, h2⟩ | ⟨h0, h1, -⟩
  · omega
  · exact h1

def updF (U : Int → Int) (b m : Int) : Int → Int := fun x => if x = b then m else U x
/-- what the order gives -/
structure Ord (sc : Int → List Int) (o : List Int) (rk : Int → Nat) : Prop where
  zero : (0 : Int) ∈ o
  first : rk 0 = 0
  mem : ∀ x, x ∈ o ↔ Rch sc x
  inj : ∀ x y, x ∈ o → y ∈ o → rk x = rk y → x = y
  pos : ∀ x, x ∈ o → 0 ≤ x
  ahead : ∀ b, b ∈ o → b ≠ 0 → ∃ y, y ∈ o ∧ b ∈ sc y ∧ rk y < rk b
/-- pass k, the blocks of rank below i are done -/
structure St (sc : Int → List Int) (o : List Int) (rk : Int → Nat) (k i : Nat) (U : Int → Int) : Prop where
  tree : Tree sc o rk U
  lev : ∀ b, b ∈ o → b ≠ 0 → rk b < i → 0 ≤ U b ∧ ¬ RchK sc rk (U b) k b
  old : ∀ k', k = k' + 1 → ∀ b, b ∈ o → b ≠ 0 → 0 ≤ U b ∧ ¬ RchK sc rk (U b) k' b

theorem St.alive (S : St sc o rk k i U) (hb : b ∈ o) (hi : rk b < i) : 0 ≤ U b := by
  by_cases h0 : b = 0
  · rw [h0, S.tree.root]; omega
  · exact (S.lev b hb h0 hi).1
theorem St.best (S : St sc o rk k i U) (O : Ord sc o rk) (hb : b ∈ o) (hb0 : b ≠ 0) (hi : rk b = i) {ps : List Int} (hps : ∀ x, x ∈ o → (x ∈ ps ↔ b ∈ sc x)) (hm : Best U ps m) :
    0 ≤ m ∧ m ∈ o ∧ 0 ≤ U m ∧ rk m < rk b ∧ (∀ c, c ≠ b → ¬ RchW sc c b → ¬ RchW sc c m) ∧ ¬ RchK sc rk m k b := by
  obtain ⟨y, hy, hyb, hyr⟩ := O.ahead b hb hb0
  have hUy : 0 ≤ U y := S.alive hy (by omega)
  rcases hm with ⟨h1, h2⟩ | ⟨h0, h1, h2, h4, h5⟩
  · have := h2 y ((hps y hy).2 hyb); omega
  have hmy := h4 y ((hps y hy).2 hyb) hUy
  have hry := S.tree.anc hmy hUy
  refine ⟨h0, S.tree.mem h1, h1, by omega, fun c hc hd => ?_, fun hr => ?_⟩
  · have h6 : ∀ p, p ∈ ps → 0 ≤ U p → ¬ RchW sc c p := fun p hp hU h =>
      hd (.step h ((hps p (S.tree.mem hU)).1 hp) (fun e => hc e.symm))
    have h7 : Anc U c m := h5 c fun p hp hU => S.tree.above hU (h6 p hp hU)
    exact S.tree.between hmy hUy h7 (h6 y ((hps y hy).2 hyb) hUy)
  · cases hr with
    | start h => exact hb0 rfl
    | @fwd _ x t h6 h7 h8 h9 =>
      have hx : x ∈ o := (O.mem x).2 h6.free.rch
      have hU := S.alive hx (by omega)
      refine S.tree.lev (h4 x ((hps x hx).2 h7) hU) hU (fun z hz hz0 hzr => ?_) h6
      exact (S.lev z (S.tree.mem hz) hz0 (by omega)).2
    | @back k' x t h6 h7 h8 =>
      have hx : x ∈ o := (O.mem x).2 h6.free.rch
      have hU : 0 ≤ U x := by
        by_cases hx0 : x = 0
        · rw [hx0, S.tree.root]; omega
        · exact (S.old k' rfl x hx hx0).1
      exact S.tree.lev (h4 x ((hps x hx).2 h7) hU) hU (fun z hz hz0 hzr => (S.old k' rfl z (S.tree.mem hz) hz0).2) h6
theorem St.next (S : St sc o rk k i U) (O : Ord sc o rk) (hb : b ∈ o) (hb0 : b ≠ 0) (hi : rk b = i) {ps : List Int} (hps : ∀ x, x ∈ o → (x ∈ ps ↔ b ∈ sc x)) (hm : Best U ps m) : St sc o rk k (i + 1) (updF U b m) := by
  obtain ⟨h0, h1, h2, h3, h4, h5⟩ := S.best O hb hb0 hi hps hm
  have hne : m ≠ b := fun e => by rw [e] at h3; omega
  have hal : ∀ x, 0 ≤ U x → 0 ≤ updF U b m x := fun x hx => by
    unfold updF
    split
    · exact h0
    · exact hx
  have hself : updF U b m b = m := if_pos rfl
  have hoth : ∀ x, x ≠ b → updF U b m x = U x := fun x hx => if_neg hx
  refine ⟨⟨O.zero, by rw [hoth 0 (Ne.symm hb0)]; exact S.tree.root, O.first, fun x hx hx0 hU => ?_, fun x hx => ?_⟩, fun x hx hx0 hr => ?_, fun k' e x hx hx0 => ?_⟩
  · by_cases hxb : x = b
    · subst hxb
      rw [hself]
      exact ⟨h1, hal m h2, h3, h4⟩
    · rw [hoth x hxb] at hU ⊢
      obtain ⟨g1, g2, g3, g4⟩ := S.tree.up x hx hx0 hU
      exact ⟨g1, hal _ g2, g3, g4⟩
  · rw [hoth x (fun e => hx (e ▸ hb))]
    exact S.tree.out x hx
  · by_cases hxb : x = b
    · subst hxb
      rw [hself]
      exact ⟨h0, h5⟩
    · rw [hoth x hxb]
      have : rk x ≠ i := fun e => hxb (O.inj x b hx hb (by omega))
      exact S.lev x hx hx0 (by omega)
  · by_cases hxb : x = b
    · subst hxb
      rw [hself]
      exact ⟨h0, fun h => h5 (by rw [e]; exact h.more)⟩
    · rw [hoth x hxb]
      exact S.old k' e x hx hx0
/-- dominance is an order on what can be come to -/
theorem Tree.anti (T : Tree sc o rk U) (O : Ord sc o rk) (ha : 0 ≤ U a) (hb : 0 ≤ U b) (h1 : ¬ RchW sc a b) (h2 : ¬ RchW sc b a) : a = b := by
  have h3 := T.anc (T.above hb h1) hb
  have h4 := T.anc (T.above ha h2) ha
  exact O.inj a b (T.mem ha) (T.mem hb) (by omega)
theorem St.still (S : St sc o rk k i U) (O : Ord sc o rk) (hb : b ∈ o) (hb0 : b ≠ 0) (hi : rk b = i) {ps : List Int} (hps : ∀ x, x ∈ o → (x ∈ ps ↔ b ∈ sc x)) (hm : Best U ps m)
    {K : Nat} (hK : ∀ a b, a ∈ o → b ∈ o → RchW sc a b → RchK sc rk a K b) (hk : K < k) : U b = m := by
  obtain ⟨h0, h1, h2, h3, h4, h5⟩ := S.best O hb hb0 hi hps hm
  obtain ⟨k', rfl⟩ : ∃ k', k = k' + 1 := ⟨k - 1, by omega⟩
  obtain ⟨g1, g2⟩ := S.old k' rfl b hb hb0
  obtain ⟨u1, u2, u3, u4⟩ := S.tree.up b hb hb0 g1
  have d1 : ¬ RchW sc m b := fun h => h5 ((hK m b h1 hb h).le (by omega))
  have d2 : ¬ RchW sc (U b) b := fun h => g2 ((hK _ b u1 hb h).le (by omega))
  exact S.tree.anti O u2 h2 (h4 _ (fun e => by rw [e] at u3; omega) d2) (u4 _ (fun e => by rw [e] at h3; omega) d1)
theorem St.pass (S : St sc o rk k i U) (hi : ∀ x, x ∈ o → rk x < i) : St sc o rk (k + 1) 1 U := by
  refine ⟨S.tree, fun b hb hb0 hr => ?_, fun k' e b hb hb0 => ?_⟩
  · obtain ⟨h1, h2⟩ := S.lev b hb hb0 (hi b hb)
    have := S.tree.up b hb hb0 h1
    omega
  · obtain rfl : k = k' := by omega
    exact S.lev b hb hb0 (hi b hb)
/-- nothing turns any more -/
def Fix (sc : Int → List Int) (o : List Int) (rk : Int → Nat) (U : Int → Int) (i : Nat) : Prop := ∀ b, b ∈ o → b ≠ 0 → rk b < i → ∀ p, p ∈ o → b ∈ sc p → 0 ≤ U p → Anc U (U b) p
theorem Fix.step (O : Ord sc o rk) (hF : Fix sc o rk U i) (hb : b ∈ o) (hi : rk b = i) {ps : List Int} (hps : ∀ x, x ∈ o → (x ∈ ps ↔ b ∈ sc x)) (hm : Best U ps (U b)) : Fix sc o rk U (i + 1) := by
  intro x hx hx0 hr p hp hs hU
  by_cases hxi : rk x = i
  · obtain rfl : x = b := O.inj x b hx hb (by omega)
    rcases hm with ⟨h1, h2⟩ | ⟨h0, h1, h2, h4, h5⟩
    · have := h2 p ((hps p hp).2 hs); omega
    · exact h4 p ((hps p hp).2 hs) hU
  · exact hF x hx hx0 (by omega) p hp hs hU
theorem Fix.dom (S : St sc o rk k i U) (O : Ord sc o rk) (hi : ∀ x, x ∈ o → rk x < i) (hF : Fix sc o rk U i) (h : RchW sc a b) : ¬ Anc U a b := by
  induction h with
  | start h => intro h'; cases h' with
    | refl => exact h rfl
    | up h0 _ => exact h0 rfl
  | @step x t h0 h1 h2 ih =>
    intro h'
    have hx : x ∈ o := (O.mem x).2 h0.rch
    have ht : t ∈ o := (O.mem t).2 (.step h0.rch h1)
    cases h' with
    | refl => exact h2 rfl
    | up ht0 hu => exact ih (hu.trans (hF t ht ht0 (hi t ht) x hx h1 (S.alive hx (hi x hx))))
end
end Go.Proofs.Ytkhlnopbgngjbaa
