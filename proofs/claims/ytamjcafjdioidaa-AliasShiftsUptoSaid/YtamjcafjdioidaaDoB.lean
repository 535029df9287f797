/- Nearest dominators by two fingers, the plain side: trees over an order, ways with so many steps back. No condition. | What precedes which block, as graph.Preds gathers it; no program is in sight. No condition. | Nearest dominators, the plain side: the order's ranks, the list that is kept, the list that is answered. No condition. -/
import Derived.Test.YtamjcafjdioidaaGrV
namespace Go.Proofs.Ytamjcafjdioidaa
set_option linter.unusedVariables false

section
variable {sc : Int → List Int} {rk : Int → Nat} {c x b : Int} {j k : Nat}
/-- to be come to from block 0 without c, with at most j steps that need not go forward -/
inductive RchK (sc : Int → List Int) (rk : Int → Nat) (c : Int) : Nat → Int → Prop
  | start {j : Nat} : c ≠ 0 → RchK sc rk c j 0
  | fwd {j : Nat} {x t : Int} : RchK sc rk c j x → t ∈ sc x → t ≠ c → rk x < rk t → RchK sc rk c j t
  | back {j : Nat} {x t : Int} : RchK sc rk c j x → t ∈ sc x → t ≠ c → RchK sc rk c (j + 1) t
theorem RchK.more (h : RchK sc rk c j x) : RchK sc rk c (j + 1) x := by
  induction h with
  | start h => exact .start h
  | fwd _ h1 h2 h3 ih => exact .fwd ih h1 h2 h3
  | back _ h1 h2 ih => exact .back ih h1 h2
theorem RchK.le (h : RchK sc rk c j x) (hk : j ≤ k) : RchK sc rk c k x := by
  obtain ⟨d, rfl⟩ : ∃ d, k = j + d := ⟨k - j, by omega⟩
  clear hk
  induction d with
  | zero => exact h
  | succ d ih => exact ih.more
theorem RchK.free (h : RchK sc rk c j x) : RchW sc c x := by
  induction h with
  | start h => exact .start h
  | fwd _ h1 h2 h3 ih => exact .step ih h1 h2
  | back _ h1 h2 ih => exact .step ih h1 h2
theorem RchW.free_ne (h : RchW sc c x) : x ≠ c := by
  cases h with
  | start h => exact fun e => h e.symm
  | step _ _ h => exact h
theorem RchW.rch (h : RchW sc c x) : Rch sc x := by
  induction h with
  | start h => exact .start
  | step _ h1 _ ih => exact .step ih h1
theorem RchW.split (h : RchW sc c b) (x : Int) : RchW sc c x ∨ RchW sc x b := by
  induction h with
  | start h =>
    by_cases hx : x = 0
    · subst hx; exact .inl (.start h)
    · exact .inr (.start hx)
  | @step y t h0 h1 h2 ih =>
    rcases ih with ih | ih
    · exact .inl ih
    · by_cases hx : t = x
      · subst hx; exact .inl (.step h0 h1 h2)
      · exact .inr (.step ih h1 hx)
theorem RchK.split (h : RchK sc rk c j b) (x : Int) : RchK sc rk c j x ∨ RchK sc rk x j b := by
  induction h with
  | start h =>
    by_cases hx : x = 0
    · subst hx; exact .inl (.start h)
    · exact .inr (.start hx)
  | @fwd j y t h0 h1 h2 h3 ih =>
    rcases ih with ih | ih
    · exact .inl ih
    · by_cases hx : t = x
      · subst hx; exact .inl (.fwd h0 h1 h2 h3)
      · exact .inr (.fwd ih h1 hx h3)
  | @back j y t h0 h1 h2 ih =>
    rcases ih with ih | ih
    · exact .inl ih.more
    · by_cases hx : t = x
      · subst hx; exact .inl (.back h0 h1 h2)
      · exact .inr (.back ih h1 hx)
theorem RchW.some_k (rk : Int → Nat) (h : RchW sc c x) : ∃ j, RchK sc rk c j x := by
  induction h with
  | start h => exact ⟨0, .start h⟩
  | step _ h1 h2 ih =>
    obtain ⟨j, ih⟩ := ih
    exact ⟨j + 1, .back ih h1 h2⟩
theorem most_k (sc : Int → List Int) (rk : Int → Nat) : ∀ l : List (Int × Int), ∃ K, ∀ p, p ∈ l → RchW sc p.1 p.2 → RchK sc rk p.1 K p.2
  | [] => ⟨0, fun p hp => by cases hp⟩
  | q :: l => by
    obtain ⟨K, hK⟩ := most_k sc rk l
    by_cases hq : RchW sc q.1 q.2
    · obtain ⟨j, hj⟩ := hq.some_k rk
      refine ⟨K + j, fun p hp h => ?_⟩
      rcases List.mem_cons.1 hp with rfl | hp
      · exact hj.le (by omega)
      · exact (hK p hp h).le (by omega)
    · refine ⟨K, fun p hp h => ?_⟩
      rcases List.mem_cons.1 hp with rfl | hp
      · exact (hq h).elim
      · exact hK p hp h
theorem steps_k (sc : Int → List Int) (rk : Int → Nat) (o : List Int) : ∃ K, ∀ a b, a ∈ o → b ∈ o → RchW sc a b → RchK sc rk a K b := by
  obtain ⟨K, hK⟩ := most_k sc rk (o.flatMap fun a => o.map fun b => (a, b))
  exact ⟨K, fun a b ha hb h => hK (a, b) (List.mem_flatMap.2 ⟨a, ha, List.mem_map.2 ⟨b, hb, rfl⟩⟩) h⟩
end

/-- a stands above b, or is it, by the nearest ones -/
inductive Anc (U : Int → Int) (a : Int) : Int → Prop
  | refl : Anc U a a
  | up {b : Int} : b ≠ 0 → Anc U a (U b) → Anc U a b
theorem Anc.trans {U : Int → Int} {a b c : Int} (h : Anc U a b) (h' : Anc U b c) : Anc U a c := by
  induction h' with
  | refl => exact h
  | up h0 _ ih => exact .up h0 ih

structure Tree (sc : Int → List Int) (o : List Int) (rk : Int → Nat) (U : Int → Int) : Prop where
  zero : (0 : Int) ∈ o
  root : U 0 = 0
  first : rk 0 = 0
  up : ∀ b, b ∈ o → b ≠ 0 → 0 ≤ U b → U b ∈ o ∧ 0 ≤ U (U b) ∧ rk (U b) < rk b ∧ ∀ c, c ≠ b → ¬ RchW sc c b → ¬ RchW sc c (U b)
  out : ∀ b, b ∉ o → U b = -1

section
variable {sc : Int → List Int} {o : List Int} {rk : Int → Nat} {U : Int → Int} {a b c m p : Int} {j k i : Nat}
theorem Tree.mem (T : Tree sc o rk U) (h : 0 ≤ U b) : b ∈ o := by
  by_cases hb : b ∈ o
  · exact hb
  · rw [T.out b hb] at h; omega
theorem Tree.anc (T : Tree sc o rk U) (h : Anc U a b) (hb : 0 ≤ U b) : 0 ≤ U a ∧ rk a ≤ rk b := by
  induction h with
  | refl => exact ⟨hb, Nat.le_refl _⟩
  | @up b h0 _ ih =>
    obtain ⟨h1, h2, h3, -⟩ := T.up b (T.mem hb) h0 hb
    obtain ⟨h4, h5⟩ := ih h2
    exact ⟨h4, by omega⟩
theorem Tree.above (T : Tree sc o rk U) (hb : 0 ≤ U b) (h : ¬ RchW sc c b) : Anc U c b := by
  obtain ⟨r, hr⟩ : ∃ r, r = rk b := ⟨_, rfl⟩
  induction r using Nat.strongRecOn generalizing b with
  | ind r ih =>
    by_cases hcb : c = b
    · rw [hcb]; exact .refl
    by_cases h0 : b = 0
    · subst h0
      exact (h (.start hcb)).elim
    · obtain ⟨h1, h2, h3, h4⟩ := T.up b (T.mem hb) h0 hb
      exact .up h0 (ih (rk (U b)) (by omega) h2 (h4 c hcb h) rfl)
theorem Tree.between (T : Tree sc o rk U) (h : Anc U m p) (hp : 0 ≤ U p) (hc : Anc U c m) (hd : ¬ RchW sc c p) : ¬ RchW sc c m := by
  induction h with
  | refl => exact hd
  | @up p h0 hm ih =>
    obtain ⟨h1, h2, h3, h4⟩ := T.up p (T.mem hp) h0 hp
    have h5 := T.anc hm h2
    have h6 := T.anc hc h5.1
    exact ih h2 (h4 c (fun e => by subst e; omega) hd)
theorem Tree.lev (T : Tree sc o rk U) (h : Anc U a b) (hb : 0 ≤ U b) (hl : ∀ x, 0 ≤ U x → x ≠ 0 → rk x ≤ rk b → ¬ RchK sc rk (U x) j x) : ¬ RchK sc rk a j b := by
  induction h with
  | refl => exact fun h => h.free.free_ne rfl
  | @up b h0 hm ih =>
    obtain ⟨h1, h2, h3, h4⟩ := T.up b (T.mem hb) h0 hb
    intro hr
    rcases hr.split (U b) with hr | hr
    · exact ih h2 (fun x a b c => hl x a b (by omega)) hr
    · exact hl b hb h0 (Nat.le_refl _) hr
theorem Tree.dom (T : Tree sc o rk U) (hd : ∀ x, x ∈ o → x ≠ 0 → ¬ RchW sc (U x) x) (h : Anc U a b) (hb : 0 ≤ U b) : ¬ RchW sc a b := by
  induction h with
  | refl => exact fun h => h.free_ne rfl
  | @up b h0 hm ih =>
    obtain ⟨h1, h2, h3, h4⟩ := T.up b (T.mem hb) h0 hb
    intro hr
    rcases hr.split (U b) with hr | hr
    · exact ih h2 hr
    · exact hd b (T.mem hb) h0 hr
/-- the nearest one above both -/
def Nca (U : Int → Int) (a b m : Int) : Prop := Anc U m a ∧ Anc U m b ∧ ∀ c, Anc U c a → Anc U c b → Anc U c m
theorem Tree.climb (T : Tree sc o rk U) (ha : 0 ≤ U a) (hb : 0 ≤ U b) (hr : rk b < rk a) : a ≠ 0 ∧ 0 ≤ U (U a) ∧ rk (U a) < rk a ∧ ∀ c, Anc U c a → Anc U c b → Anc U c (U a) := by
  have h0 : a ≠ 0 := fun e => by rw [e, T.first] at hr; omega
  obtain ⟨h1, h2, h3, -⟩ := T.up a (T.mem ha) h0 ha
  refine ⟨h0, h2, h3, fun c h4 h5 => ?_⟩
  cases h4 with
  | refl => have := T.anc h5 hb; omega
  | up _ h => exact h
/-- the fold over predecessors, so far -/
def Best (U : Int → Int) (ps : List Int) (m : Int) : Prop :=
  (m = -1 ∧ ∀ p, p ∈ ps → U p < 0) ∨ (0 ≤ m ∧ 0 ≤ U m ∧ (∃ p, p ∈ ps ∧ 0 ≤ U p) ∧ (∀ p, p ∈ ps → 0 ≤ U p → Anc U m p) ∧ ∀ c, (∀ p, p ∈ ps → 0 ≤ U p → Anc U c p) → Anc U c m)
theorem best_nil : Best U [] (-1) := .inl ⟨rfl, fun p hp => by cases hp⟩
theorem Best.skip {ps : List Int} (h : Best U ps m) (hp : U p < 0) : Best U (ps ++ [p]) m := by
  have hx : ∀ q, q ∈ ps ++ [p] → 0 ≤ U q → q ∈ ps := fun q hq h1 => by
    rcases List.mem_append.1 hq with h2 | h2
    · exact h2
    · rw [List.mem_singleton.1 h2] at h1; omega
  rcases h with ⟨h1, h2⟩ | ⟨h0, h1, ⟨q, h2, h3⟩, h4, h5⟩
  · refine .inl ⟨h1, fun q hq => ?_⟩
    rcases List.mem_append.1 hq with h3 | h3
    · exact h2 q h3
    · rw [List.mem_singleton.1 h3]; exact hp
  · exact .inr ⟨h0, h1, ⟨q, List.mem_append_left _ h2, h3⟩, fun q hq h => h4 q (hx q hq h) h, fun c hc => h5 c fun q hq h => hc q (List.mem_append_left _ hq) h⟩
theorem Best.first {ps : List Int} (h : Best U ps m) (hm : m < 0) (hp0 : 0 ≤ p) (hp : 0 ≤ U p) : Best U (ps ++ [p]) p := by
  rcases h with ⟨h1, h2⟩ | ⟨h0, -⟩
  · refine .inr ⟨hp0, hp, ⟨p, by simp, hp⟩, fun q hq h => ?_, fun c hc => hc p (by simp) hp⟩
    rcases List.mem_append.1 hq with h3 | h3
    · have := h2 q h3; omega
    · rw [List.mem_singleton.1 h3]; exact .refl
  · omega
theorem Best.next {ps : List Int} {m' : Int} (h : Best U ps m) (hm : 0 ≤ m) (hp : 0 ≤ U p) (hn : Nca U m p m') (h0' : 0 ≤ m') (hU : 0 ≤ U m') : Best U (ps ++ [p]) m' := by
  rcases h with ⟨h1, h2⟩ | ⟨h0, h1, ⟨q, h2, h3⟩, h4, h5⟩
  · omega
  · obtain ⟨n1, n2, n3⟩ := hn
    refine .inr ⟨h0', hU, ⟨p, by simp, hp⟩, fun q hq h => ?_, fun c hc => ?_⟩
    · rcases List.mem_append.1 hq with h6 | h6
      · exact n1.trans (h4 q h6 h)
      · rw [List.mem_singleton.1 h6]; exact n2
    · exact n3 c (h5 c fun q hq h => hc q (List.mem_append_left _ hq) h) (hc p (by simp) hp)
theorem Best.alive {ps : List Int} (h : Best U ps m) (hm : 0 ≤ m) : 0 ≤ U m := by
  rcases h with ⟨h1, h2⟩ | ⟨h0, h1, -⟩
  · omega
  · exact h1

def updF (U : Int → Int) (b m : Int) : Int → Int := fun x => if x = b then m else U x
/-- what the order gives -/
structure Ord (sc : Int → List Int) (o : List Int) (rk : Int → Nat) : Prop where
  zero : (0 : Int) ∈ o
  first : rk 0 = 0
  mem : ∀ x, x ∈ o ↔ Rch sc x
  inj : ∀ x y, x ∈ o → y ∈ o → rk x = rk y → x = y
  pos : ∀ x, x ∈ o → 0 ≤ x
  ahead : ∀ b, b ∈ o → b ≠ 0 → ∃ y, y ∈ o ∧ b ∈ sc y ∧ rk y < rk b
/-- pass k, the blocks of rank below i are done -/
structure St (sc : Int → List Int) (o : List Int) (rk : Int → Nat) (k i : Nat) (U : Int → Int) : Prop where
  tree : Tree sc o rk U
  lev : ∀ b, b ∈ o → b ≠ 0 → rk b < i → 0 ≤ U b ∧ ¬ RchK sc rk (U b) k b
  old : ∀ k', k = k' + 1 → ∀ b, b ∈ o → b ≠ 0 → 0 ≤ U b ∧ ¬ RchK sc rk (U b) k' b

theorem St.alive (S : St sc o rk k i U) (hb : b ∈ o) (hi : rk b < i) : 0 ≤ U b := by
  by_cases h0 : b = 0
  · rw [h0, S.tree.root]; omega
  · exact (S.lev b hb h0 hi).1
theorem St.best (S : St sc o rk k i U) (O : Ord sc o rk) (hb : b ∈ o) (hb0 : b ≠ 0) (hi : rk b = i) {ps : List Int} (hps : ∀ x, x ∈ o → (x ∈ ps ↔ b ∈ sc x)) (hm : Best U ps m) :
    0 ≤ m ∧ m ∈ o ∧ 0 ≤ U m ∧ rk m < rk b ∧ (∀ c, c ≠ b → ¬ RchW sc c b → ¬ RchW sc c m) ∧ ¬ RchK sc rk m k b := by
  obtain ⟨y, hy, hyb, hyr⟩ := O.ahead b hb hb0
  have hUy : 0 ≤ U y := S.alive hy (by omega)
  rcases hm with ⟨h1, h2⟩ | ⟨h0, h1, h2, h4, h5⟩
  · have := h2 y ((hps y hy).2 hyb); omega
  have hmy := h4 y ((hps y hy).2 hyb) hUy
  have hry := S.tree.anc hmy hUy
  refine ⟨h0, S.tree.mem h1, h1, by omega, fun c hc hd => ?_, fun hr => ?_⟩
  · have h6 : ∀ p, p ∈ ps → 0 ≤ U p → ¬ RchW sc c p := fun p hp hU h =>
      hd (.step h ((hps p (S.tree.mem hU)).1 hp) (fun e => hc e.symm))
    have h7 : Anc U c m := h5 c fun p hp hU => S.tree.above hU (h6 p hp hU)
    exact S.tree.between hmy hUy h7 (h6 y ((hps y hy).2 hyb) hUy)
  · cases hr with
    | start h => exact hb0 rfl
    | @fwd _ x t h6 h7 h8 h9 =>
      have hx : x ∈ o := (O.mem x).2 h6.free.rch
      have hU := S.alive hx (by omega)
      refine S.tree.lev (h4 x ((hps x hx).2 h7) hU) hU (fun z hz hz0 hzr => ?_) h6
      exact (S.lev z (S.tree.mem hz) hz0 (by omega)).2
    | @back k' x t h6 h7 h8 =>
      have hx : x ∈ o := (O.mem x).2 h6.free.rch
      have hU : 0 ≤ U x := by
        by_cases hx0 : x = 0
        · rw [hx0, S.tree.root]; omega
        · exact (S.old k' rfl x hx hx0).1
      exact S.tree.lev (h4 x ((hps x hx).2 h7) hU) hU (fun z hz hz0 hzr => (S.old k' rfl z (S.tree.mem hz) hz0).2) h6
theorem St.next (S : St sc o rk k i U) (O : Ord sc o rk) (hb : b ∈ o) (hb0 : b ≠ 0) (hi : rk b = i) {ps : List Int} (hps : ∀ x, x ∈ o → (x ∈ ps ↔ b ∈ sc x)) (hm : Best U ps m) : St sc o rk k (i + 1) (updF U b m) := by
  obtain ⟨h0, h1, h2, h3, h4, h5⟩ := S.best O hb hb0 hi hps hm
  have hne : m ≠ b := fun e => by rw [e] at h3; omega
  have hal : ∀ x, 0 ≤ U x → 0 ≤ updF U b m x := fun x hx => by
    unfold updF
    split
    · exact h0
    · exact hx
  have hself : updF U b m b = m := if_pos rfl
  have hoth : ∀ x, x ≠ b → updF U b m x = U x := fun x hx => if_neg hx
  refine ⟨⟨O.zero, by rw [hoth 0 (Ne.symm hb0)]; exact S.tree.root, O.first, fun x hx hx0 hU => ?_, fun x hx => ?_⟩, fun x hx hx0 hr => ?_, fun k' e x hx hx0 => ?_⟩
  · by_cases hxb : x = b
    · subst hxb
      rw [hself]
      exact ⟨h1, hal m h2, h3, h4⟩
    · rw [hoth x hxb] at hU ⊢
      obtain ⟨g1, g2, g3, g4⟩ := S.tree.up x hx hx0 hU
      exact ⟨g1, hal _ g2, g3, g4⟩
  · rw [hoth x (fun e => hx (e ▸ hb))]
    exact S.tree.out x hx
  · by_cases hxb : x = b
    · subst hxb
      rw [hself]
      exact ⟨h0, h5⟩
    · rw [hoth x hxb]
      have : rk x ≠ i := fun e => hxb (O.inj x b hx hb (by omega))
      exact S.lev x hx hx0 (by omega)
  · by_cases hxb : x = b
    · subst hxb
      rw [hself]
      exact ⟨h0, fun h => h5 (by rw [e]; exact h.more)⟩
    · rw [hoth x hxb]
      exact S.old k' e x hx hx0
/-- dominance is an order on what can be come to -/
theorem Tree.anti (T : Tree sc o rk U) (O : Ord sc o rk) (ha : 0 ≤ U a) (hb : 0 ≤ U b) (h1 : ¬ RchW sc a b) (h2 : ¬ RchW sc b a) : a = b := by
  have h3 := T.anc (T.above hb h1) hb
  have h4 := T.anc (T.above ha h2) ha
  exact O.inj a b (T.mem ha) (T.mem hb) (by omega)
theorem St.still (S : St sc o rk k i U) (O : Ord sc o rk) (hb : b ∈ o) (hb0 : b ≠ 0) (hi : rk b = i) {ps : List Int} (hps : ∀ x, x ∈ o → (x ∈ ps ↔ b ∈ sc x)) (hm : Best U ps m)
    {K : Nat} (hK : ∀ a b, a ∈ o → b ∈ o → RchW sc a b → RchK sc rk a K b) (hk : K < k) : U b = m := by
  obtain ⟨h0, h1, h2, h3, h4, h5⟩ := S.best O hb hb0 hi hps hm
  obtain ⟨k', rfl⟩ : ∃ k', k = k' + 1 := ⟨k - 1, by omega⟩
  obtain ⟨g1, g2⟩ := S.old k' rfl b hb hb0
  obtain ⟨u1, u2, u3, u4⟩ := S.tree.up b hb hb0 g1
  have d1 : ¬ RchW sc m b := fun h => h5 ((hK m b h1 hb h).le (by omega))
  have d2 : ¬ RchW sc (U b) b := fun h => g2 ((hK _ b u1 hb h).le (by omega))
  exact S.tree.anti O u2 h2 (h4 _ (fun e => by rw [e] at u3; omega) d2) (u4 _ (fun e => by rw [e] at h3; omega) d1)
theorem St.pass (S : St sc o rk k i U) (hi : ∀ x, x ∈ o → rk x < i) : St sc o rk (k + 1) 1 U := by
  refine ⟨S.tree, fun b hb hb0 hr => ?_, fun k' e b hb hb0 => ?_⟩
  · obtain ⟨h1, h2⟩ := S.lev b hb hb0 (hi b hb)
    have := S.tree.up b hb hb0 h1
    omega
  · obtain rfl : k = k' := by omega
    exact S.lev b hb hb0 (hi b hb)
/-- nothing turns any more -/
def Fix (sc : Int → List Int) (o : List Int) (rk : Int → Nat) (U : Int → Int) (i : Nat) : Prop := ∀ b, b ∈ o → b ≠ 0 → rk b < i → ∀ p, p ∈ o → b ∈ sc p → 0 ≤ U p → Anc U (U b) p
theorem Fix.step (O : Ord sc o rk) (hF : Fix sc o rk U i) (hb : b ∈ o) (hi : rk b = i) {ps : List Int} (hps : ∀ x, x ∈ o → (x ∈ ps ↔ b ∈ sc x)) (hm : Best U ps (U b)) : Fix sc o rk U (i + 1) := by
  intro x hx hx0 hr p hp hs hU
  by_cases hxi : rk x = i
  · obtain rfl : x = b := O.inj x b hx hb (by omega)
    rcases hm with ⟨h1, h2⟩ | ⟨h0, h1, h2, h4, h5⟩
    · have := h2 p ((hps p hp).2 hs); omega
    · exact h4 p ((hps p hp).2 hs) hU
  · exact hF x hx hx0 (by omega) p hp hs hU
theorem Fix.dom (S : St sc o rk k i U) (O : Ord sc o rk) (hi : ∀ x, x ∈ o → rk x < i) (hF : Fix sc o rk U i) (h : RchW sc a b) : ¬ Anc U a b := by
  induction h with
  | start h => intro h'; cases h' with
    | refl => exact h rfl
    | up h0 _ => exact h0 rfl
  | @step x t h0 h1 h2 ih =>
    intro h'
    have hx : x ∈ o := (O.mem x).2 h0.rch
    have ht : t ∈ o := (O.mem t).2 (.step h0.rch h1)
    cases h' with
    | refl => exact h2 rfl
    | up ht0 hu => exact ih (hu.trans (hF t ht ht0 (hi t ht) x hx h1 (S.alive hx (hi x hx))))
end
end Go.Proofs.Ytamjcafjdioidaa

namespace Go.Proofs.Ytamjcafjdioidaa
set_option linter.unusedVariables false

def predsAt (succ : Int → List Int) (t : Int) (b : Nat) : List Int := ((List.range b).filter fun (x : Nat) => decide (t ∈ succ (x : Int))).map Int.ofNat
def predsPart (succ : Int → List Int) (n b i : Nat) : List (List Int) := (List.range n).map fun (t : Nat) => predsAt succ t b ++ (if (t : Int) ∈ (succ b).take i then [(b : Int)] else [])
def predsL (succ : Int → List Int) (n : Nat) : List (List Int) := (List.range n).map fun (t : Nat) => predsAt succ t n
theorem predsPart_len (succ : Int → List Int) (n b i : Nat) : (predsPart succ n b i).length = n := by simp [predsPart]
theorem predsL_len (succ : Int → List Int) (n : Nat) : (predsL succ n).length = n := by simp [predsL]
theorem predsPart_end (succ : Int → List Int) (n b : Nat) : predsPart succ n b (succ b).length = predsPart succ n (b + 1) 0 := by
  unfold predsPart
  refine List.map_congr_left fun t _ => ?_
  have e0 : ¬ (t : Int) ∈ (succ ((b + 1 : Nat) : Int)).take 0 := by rw [List.take_zero]; intro h; cases h
  rw [List.take_length, if_neg e0, List.append_nil]
  unfold predsAt
  rw [List.range_succ, List.filter_append, List.map_append]
  congr 1
  by_cases h : (t : Int) ∈ succ b
  · rw [if_pos h]; simp [h]
  · rw [if_neg h]; simp [h]
theorem predsPart_start (succ : Int → List Int) (n : Nat) : predsPart succ n 0 0 = List.replicate n [] := by
  refine List.ext_getElem (by simp [predsPart]) fun k h1 h2 => ?_
  simp [predsPart, predsAt]
theorem predsPart_last (succ : Int → List Int) (n : Nat) : predsPart succ n n 0 = predsL succ n := by
  unfold predsPart predsL
  refine List.map_congr_left fun t _ => ?_
  simp
theorem predsPart_step {succ : Int → List Int} {n b i t : Nat} (hs : (succ b).Nodup) (ht : (succ b)[i]? = some (t : Int)) (htn : t < n) {p : List Int} (hp : (predsPart succ n b i)[t]? = some p) :
    (predsPart succ n b i).set t (p ++ [(b : Int)]) = predsPart succ n b (i + 1) := by
  have htk : (t : Int) ∉ (succ b).take i := fun hm => by
    obtain ⟨j, hj⟩ := List.getElem?_of_mem hm
    rw [List.getElem?_take] at hj
    split at hj
    · rename_i hji
      obtain ⟨h1, h2⟩ := List.getElem?_eq_some_iff.1 ht
      obtain ⟨h3, h4⟩ := List.getElem?_eq_some_iff.1 hj
      exact (List.pairwise_iff_getElem.1 hs) j i h3 h1 hji (h4.trans h2.symm)
    · cases hj
  have hpe : p = predsAt succ t b := by
    unfold predsPart at hp
    rw [List.getElem?_map, List.getElem?_range htn] at hp
    simp only [Option.map_some, Option.some.injEq] at hp
    rw [if_neg htk, List.append_nil] at hp
    exact hp.symm
  subst hpe
  have htake : (succ b).take (i + 1) = (succ b).take i ++ [(t : Int)] := by rw [List.take_add_one, ht]; rfl
  refine List.ext_getElem? fun k => ?_
  by_cases hk : t = k
  · subst hk
    rw [List.getElem?_set_self (by rw [predsPart_len]; exact htn)]
    unfold predsPart
    rw [List.getElem?_map, List.getElem?_range htn]
    simp only [Option.map_some]
    rw [htake, if_pos (by simp)]
  · rw [List.getElem?_set_ne hk]
    unfold predsPart
    rw [List.getElem?_map, List.getElem?_map]
    by_cases hkn : k < n
    · rw [List.getElem?_range hkn]
      simp only [Option.map_some]
      have : ((k : Int) ∈ (succ b).take (i + 1)) ↔ (k : Int) ∈ (succ b).take i := by rw [htake]; simp; omega
      simp only [this]
    · rw [List.getElem?_eq_none (by simpa using hkn)]; rfl
theorem predsPart_at_len {succ : Int → List Int} {n b i t : Nat} {p : List Int} (hp : (predsPart succ n b i)[t]? = some p) : p.length ≤ b + 1 := by
  have htn : t < n := by have := (List.getElem?_eq_some_iff.1 hp).1; rwa [predsPart_len] at this
  unfold predsPart at hp
  rw [List.getElem?_map, List.getElem?_range htn] at hp
  simp only [Option.map_some, Option.some.injEq] at hp
  subst hp
  have h1 : (predsAt succ t b).length ≤ b := by
    unfold predsAt
    rw [List.length_map]
    exact Nat.le_trans (List.length_filter_le _ _) (by simp)
  rw [List.length_append]
  split
  · simp; omega
  · simp; omega
theorem predsL_mem {succ : Int → List Int} {n : Nat} {t : Nat} {p : List Int} (hp : (predsL succ n)[t]? = some p) (x : Int) : x ∈ p ↔ (0 ≤ x ∧ x < n ∧ (t : Int) ∈ succ x) := by
  have ht : t < n := by have := (List.getElem?_eq_some_iff.1 hp).1; rwa [predsL_len] at this
  unfold predsL at hp
  rw [List.getElem?_map, List.getElem?_range ht] at hp
  simp only [Option.map_some, Option.some.injEq] at hp
  subst hp
  unfold predsAt
  simp only [List.mem_map, List.mem_filter, List.mem_range, decide_eq_true_eq]
  constructor
  · rintro ⟨a, ⟨h1, h2⟩, rfl⟩
    exact ⟨by simp, by simpa using h1, h2⟩
  · rintro ⟨h1, h2, h3⟩
    refine ⟨x.toNat, ⟨by omega, by rwa [Int.toNat_of_nonneg h1]⟩, by simp [Int.toNat_of_nonneg h1]⟩
theorem predsL_sorted {succ : Int → List Int} {n : Nat} {t : Nat} {p : List Int} (hp : (predsL succ n)[t]? = some p) : p.Pairwise (· < ·) := by
  have ht : t < n := by have := (List.getElem?_eq_some_iff.1 hp).1; rwa [predsL_len] at this
  unfold predsL at hp
  rw [List.getElem?_map, List.getElem?_range ht] at hp
  simp only [Option.map_some, Option.some.injEq] at hp
  subst hp
  unfold predsAt
  rw [List.pairwise_map]
  refine List.Pairwise.imp ?_ (List.Pairwise.filter _ (List.pairwise_lt_range))
  intro a b h
  exact Int.ofNat_lt.2 h
theorem sum_set : ∀ (l : List (List Int)) (k : Nat) (p q : List Int), l[k]? = some p → ((l.set k q).map List.length).sum + p.length = (l.map List.length).sum + q.length
  | [], k, p, q, h => by cases h
  | x :: l, 0, p, q, h => by simp at h; subst h; simp; omega
  | x :: l, k + 1, p, q, h => by
    have := sum_set l k p q (by simpa using h)
    simp only [List.set_cons_succ, List.map_cons, List.sum_cons]
    omega
theorem predsPart_sum_in {succ : Int → List Int} {n b : Nat} (hs : SuccOk n (succ b)) : ∀ i, i ≤ (succ b).length → ((predsPart succ n b i).map List.length).sum = ((predsPart succ n b 0).map List.length).sum + i
  | 0, _ => rfl
  | i + 1, hi => by
    have h1 := predsPart_sum_in hs i (by omega)
    have hx : (succ b)[i]? = some (succ b)[i] := List.getElem?_eq_getElem (by omega)
    obtain ⟨hb1, hb2⟩ := hs.bound _ (List.mem_of_getElem? hx)
    obtain ⟨t, ht⟩ := Int.eq_ofNat_of_zero_le hb1
    rw [ht] at hx hb2
    have htn : t < n := by omega
    have hp : (predsPart succ n b i)[t]? = some ((predsPart succ n b i)[t]'(by rw [predsPart_len]; exact htn)) := List.getElem?_eq_getElem _
    have h2 := predsPart_step hs.nodup hx htn hp
    have h3 := sum_set _ t _ ((predsPart succ n b i)[t]'(by rw [predsPart_len]; exact htn) ++ [(b : Int)]) hp
    rw [h2, List.length_append] at h3
    simp only [List.length_cons, List.length_nil] at h3
    omega
theorem predsPart_sum {succ : Int → List Int} {n : Nat} (hs : ∀ b, SuccOk n (succ b)) : ∀ b : Nat, ((predsPart succ n b 0).map List.length).sum = ((List.range b).map fun (x : Nat) => (succ x).length).sum
  | 0 => by rw [predsPart_start]; simp
  | b + 1 => by
    rw [← predsPart_end, predsPart_sum_in (hs b) _ (Nat.le_refl _), predsPart_sum hs b, List.range_succ, List.map_append, List.sum_append]
    simp
theorem predsL_sum {succ : Int → List Int} {n : Nat} (hs : ∀ b, SuccOk n (succ b)) : ((predsL succ n).map List.length).sum = ((List.range n).map fun (x : Nat) => (succ x).length).sum := by
  rw [← predsPart_last, predsPart_sum hs]
end Go.Proofs.Ytamjcafjdioidaa

namespace Go.Proofs.Ytamjcafjdioidaa
set_option linter.unusedVariables false
set_option linter.unusedSimpArgs false

theorem idx_at : ∀ {O : List Int} (hd : O.Nodup) {i : Nat} {b : Int}, O[i]? = some b → O.idxOf b = i
  | [], _, _, _, h => by cases h
  | a :: O, hd, 0, b, h => by cases h; exact List.idxOf_cons_self
  | a :: O, hd, i + 1, b, h => by
    have h1 : O[i]? = some b := h
    have h2 := List.nodup_cons.1 hd
    have h3 : a ≠ b := fun e => h2.1 (e ▸ List.mem_of_getElem? h1)
    rw [List.idxOf_cons, beq_eq_false_iff_ne.2 h3, cond_false, idx_at h2.2 h1]
theorem at_idx {O : List Int} {b : Int} (h : b ∈ O) : O[O.idxOf b]? = some b := by
  have h1 := List.idxOf_lt_length_iff.2 h
  rw [List.getElem?_eq_getElem h1, List.getElem_idxOf]
theorem ord_ok {sc : Int → List Int} {n : Nat} {O : List Int} (h : OrderOk n sc O) (hn : 0 < n) : Ord sc O (fun b => O.idxOf b) := by
  have hz : O[0]? = some 0 := by
    have := h.head hn
    cases O with
    | nil => cases this
    | cons a O => exact this
  refine ⟨List.mem_of_getElem? hz, idx_at h.nodup hz, fun x => ⟨fun hx => ((h.mem x).1 hx).2, fun hx => (h.mem x).2 ⟨hn, hx⟩⟩, fun x y hx hy e => ?_, fun x hx => (h.bound x hx).1, fun b hb h0 => ?_⟩
  · have h1 := at_idx hx
    have h2 := at_idx hy
    have e' : O.idxOf x = O.idxOf y := e
    rw [e', h2] at h1
    exact (Option.some.inj h1).symm
  · obtain ⟨y, h1, p, q, h2, h3⟩ := h.ahead b hb h0
    obtain ⟨i, hi⟩ := List.getElem?_of_mem h3
    have hil := (List.getElem?_eq_some_iff.1 hi).1
    have e1 : O[i]? = some y := by rw [h2, List.getElem?_append_left hil]; exact hi
    have e2 : O[p.length]? = some b := by rw [h2, List.getElem?_append_right (Nat.le_refl _)]; simp
    refine ⟨y, List.mem_of_getElem? e1, h1, ?_⟩
    show O.idxOf y < O.idxOf b
    rw [idx_at h.nodup e1, idx_at h.nodup e2]
    exact hil

/-- the list that is kept, as a function -/
def upF (l : List Int) : Int → Int := fun b => if 0 ≤ b then l.getD b.toNat (-1) else -1
theorem upF_nat (l : List Int) (k : Nat) : upF l k = l.getD k (-1) := by unfold upF; rw [if_pos (by omega)]; simp
theorem upF_some {l : List Int} {k : Nat} {x : Int} (h : l[k]? = some x) : upF l k = x := by rw [upF_nat]; simp [h]
theorem upF_get {l : List Int} {b : Int} (h : 0 ≤ upF l b) : 0 ≤ b ∧ l[b.toNat]? = some (upF l b) := by
  unfold upF at h ⊢
  by_cases hb : 0 ≤ b
  · rw [if_pos hb] at h ⊢
    refine ⟨hb, ?_⟩
    rw [List.getD_eq_getElem?_getD] at h ⊢
    cases e : l[b.toNat]? with
    | none => rw [e] at h; simp at h
    | some x => simp
  · rw [if_neg hb] at h; omega
theorem upF_set {l : List Int} {k : Nat} (hk : k < l.length) (m : Int) : upF (l.set k m) = updF (upF l) k m := by
  funext b
  unfold upF updF
  show (if 0 ≤ b then (l.set k m).getD b.toNat (-1) else -1) = if b = (k : Int) then m else (if 0 ≤ b then l.getD b.toNat (-1) else -1)
  by_cases hb : 0 ≤ b
  · rw [if_pos hb]
    by_cases e : b = k
    · subst e
      rw [if_pos rfl]
      simp [hk]
    · rw [if_neg e, if_pos hb, List.getD_eq_getElem?_getD, List.getD_eq_getElem?_getD, List.getElem?_set_ne (by omega)]
  · rw [if_neg hb, if_neg (by omega), if_neg hb]
/-- the first list -/
def firstUp (n : Nat) : List Int := (List.replicate n (-1)).set 0 0
theorem first_st {sc : Int → List Int} {o : List Int} {rk : Int → Nat} {n : Nat} (O : Ord sc o rk) (hn : 0 < n) : St sc o rk 0 1 (upF (firstUp n)) := by
  have h0 : upF (firstUp n) 0 = 0 := upF_some (k := 0) (by unfold firstUp; rw [List.getElem?_set_self (by simpa using hn)])
  have h1 : ∀ x, x ≠ 0 → upF (firstUp n) x = -1 := fun x hx => by
    unfold upF firstUp
    by_cases hb : 0 ≤ x
    · rw [if_pos hb, List.getD_eq_getElem?_getD, List.getElem?_set_ne (by omega), List.getElem?_replicate]
      split <;> rfl
    · rw [if_neg hb]
  refine ⟨⟨O.zero, h0, O.first, fun b hb hb0 hu => ?_, fun b hb => h1 b (fun e => hb (e ▸ O.zero))⟩, fun b hb hb0 hr => ?_, fun k' e => by omega⟩
  · rw [h1 b hb0] at hu; omega
  · exact (hb0 (O.inj b 0 hb O.zero (by rw [O.first]; omega))).elim

theorem St.back {sc : Int → List Int} {o : List Int} {rk : Int → Nat} {k i j : Nat} {U : Int → Int} (S : St sc o rk (k + 1) i U) : St sc o rk k j U :=
  ⟨S.tree, fun b hb h0 _ => S.old k rfl b hb h0, fun k' e b hb h0 => by
    obtain ⟨h1, h2⟩ := S.old k rfl b hb h0
    exact ⟨h1, fun h => h2 (by rw [e]; exact h.more)⟩⟩
theorem updF_same {U : Int → Int} {b m : Int} (h : U b = m) : updF U b m = U := by
  funext x
  unfold updF
  split
  · rename_i e; rw [e, h]
  · rfl
theorem fix_one {sc : Int → List Int} {o : List Int} {rk : Int → Nat} (O : Ord sc o rk) (U : Int → Int) : Fix sc o rk U 1 := fun b hb h0 hr =>
  (h0 (O.inj b 0 hb O.zero (by rw [O.first]; omega))).elim
/-- a list in pass k, blocks of rank below i done -/
def Good (sc : Int → List Int) (o : List Int) (n k i : Nat) (l : List Int) : Prop := l.length = n ∧ (0 < n → St sc o (fun b => o.idxOf b) k i (upF l))
/-- what dom.Idom answers: nothing but this -/
structure IdomOk (sc : Int → List Int) (o : List Int) (n : Nat) (l : List Int) : Prop where
  len : l.length = n
  none_ : ∀ b : Nat, b < n → ((b : Int) ∉ o ∨ b = 0) → l[b]? = some (-1)
  some_ : ∀ b : Nat, b < n → (b : Int) ∈ o → b ≠ 0 → ∃ u : Int, l[b]? = some u ∧ u ∈ o ∧ u ≠ b ∧ o.idxOf u < o.idxOf (b : Int) ∧ ¬ RchW sc u b ∧ ∀ c, c ≠ (b : Int) → ¬ RchW sc c b → ¬ RchW sc c u
section
variable {sc : Int → List Int} {o : List Int} {n k : Nat} {l : List Int}
theorem idom_none (h0 : o = []) (hl : l.length = n) (hn : n = 0) : IdomOk sc o n l := by
  subst hn
  exact ⟨hl, fun b hb => by omega, fun b hb => by omega⟩
theorem idom_end (O : OrderOk n sc o) (hn : 0 < n) (hl : l.length = n) (S : St sc o (fun b => o.idxOf b) k o.length (upF l)) (F : Fix sc o (fun b => o.idxOf b) (upF l) o.length) : IdomOk sc o n (l.set 0 (-1)) := by
  have P := ord_ok O hn
  have hi : ∀ x, x ∈ o → o.idxOf x < o.length := fun x hx => List.idxOf_lt_length_iff.2 hx
  refine ⟨by simpa using hl, fun b hb h => ?_, fun b hb hbo hb0 => ?_⟩
  · by_cases h0 : b = 0
    · subst h0; rw [List.getElem?_set_self (by omega)]
    · rw [List.getElem?_set_ne (by omega)]
      have h1 := S.tree.out b (h.resolve_right h0)
      rw [upF_nat, List.getD_eq_getElem?_getD] at h1
      obtain ⟨x, hx⟩ : ∃ x, l[b]? = some x := ⟨_, List.getElem?_eq_getElem (by omega)⟩
      rw [hx] at h1 ⊢
      simpa using h1
  · have hb0' : (b : Int) ≠ 0 := by omega
    obtain ⟨h1, h2⟩ := S.lev b hbo hb0' (hi b hbo)
    obtain ⟨g1, g2, g3, g4⟩ := S.tree.up b hbo hb0' h1
    have h3 := (upF_get h1).2
    rw [List.getElem?_set_ne (by omega)]
    refine ⟨upF l b, by simpa using h3, g1, fun e => by rw [e] at g3; omega, g3, fun hr => ?_, g4⟩
    exact Fix.dom S P hi F hr (.up hb0' .refl)
theorem idom_done (O : OrderOk n sc o) (G : Good sc o n (k + 1) 1 l) (F : 0 < n → Fix sc o (fun b => o.idxOf b) (upF l) o.length) (hn : 0 < n) : IdomOk sc o n (l.set 0 (-1)) :=
  idom_end O hn G.1 (k := k) (G.2 hn).back (F hn)
theorem IdomOk.ok (I : IdomOk sc o n l) (O : OrderOk n sc o) : ∀ x, x ∈ l → -1 ≤ x ∧ x < n := fun x hx => by
  obtain ⟨i, hi⟩ := List.getElem?_of_mem hx
  have hil := (List.getElem?_eq_some_iff.1 hi).1
  rw [I.len] at hil
  by_cases h : (i : Int) ∈ o ∧ i ≠ 0
  · obtain ⟨u, h3, h4, -⟩ := I.some_ i hil h.1 h.2
    rw [hi] at h3
    cases h3
    have := O.bound x h4
    omega
  · have h3 := I.none_ i hil (by by_cases h0 : i = 0; exact .inr h0; exact .inl (fun h1 => h ⟨h1, h0⟩))
    rw [hi] at h3
    cases h3
    omega
/-- going up from b one meets just what dominates b -/
def topF (l : List Int) : Int → Int := fun b => if b = 0 then 0 else upF l b
theorem IdomOk.tree (I : IdomOk sc o n l) (O : OrderOk n sc o) (hn : 0 < n) : Tree sc o (fun b => o.idxOf b) (topF l) := by
  have P := ord_ok O hn
  have hal : ∀ x, x ∈ o → 0 ≤ topF l x := fun x hx => by
    unfold topF
    split
    · omega
    · rename_i h0
      obtain ⟨h1, h2⟩ := O.bound x hx
      obtain ⟨u, h3, h4, -⟩ := I.some_ x.toNat (by omega) (by rwa [Int.toNat_of_nonneg h1]) (by omega)
      have := upF_some h3
      rw [Int.toNat_of_nonneg h1] at this
      rw [this]
      exact P.pos u h4
  refine ⟨P.zero, if_pos rfl, P.first, fun b hb h0 hu => ?_, fun b hb => ?_⟩
  · obtain ⟨h1, h2⟩ := O.bound b hb
    obtain ⟨bn, rfl⟩ := Int.eq_ofNat_of_zero_le h1
    obtain ⟨u, h3, h4, h5, h6, h7, h8⟩ := I.some_ bn (by omega) hb (by omega)
    rw [show topF l (bn : Int) = u from by unfold topF; rw [if_neg h0]; exact upF_some h3]
    exact ⟨h4, hal u h4, h6, h8⟩
  · have h0 : b ≠ 0 := fun e => hb (e ▸ P.zero)
    unfold topF
    rw [if_neg h0]
    by_cases hb1 : 0 ≤ b ∧ b < n
    · obtain ⟨bn, rfl⟩ := Int.eq_ofNat_of_zero_le hb1.1
      exact upF_some (I.none_ bn (by omega) (.inl hb))
    · unfold upF
      split
      · rw [List.getD_eq_getElem?_getD, List.getElem?_eq_none (by have := I.len; omega)]; rfl
      · rfl
theorem IdomOk.alive (I : IdomOk sc o n l) (O : OrderOk n sc o) (hn : 0 < n) {x : Int} (hx : x ∈ o) : 0 ≤ topF l x := by
  have P := ord_ok O hn
  unfold topF
  split
  · omega
  · rename_i h0
    obtain ⟨h1, h2⟩ := O.bound x hx
    obtain ⟨u, h3, h4, -⟩ := I.some_ x.toNat (by omega) (by rwa [Int.toNat_of_nonneg h1]) (by omega)
    have := upF_some h3
    rw [Int.toNat_of_nonneg h1] at this
    rw [this]
    exact P.pos u h4
theorem IdomOk.anc (I : IdomOk sc o n l) (O : OrderOk n sc o) (hn : 0 < n) {a b : Int} (hb : b ∈ o) : Anc (topF l) a b ↔ ¬ RchW sc a b := by
  have T := I.tree O hn
  refine ⟨fun h => T.dom (fun x hx h0 => ?_) h (I.alive O hn hb), fun h => T.above (I.alive O hn hb) h⟩
  obtain ⟨h1, h2⟩ := O.bound x hx
  obtain ⟨xn, rfl⟩ := Int.eq_ofNat_of_zero_le h1
  obtain ⟨u, h3, h4, h5, h6, h7, h8⟩ := I.some_ xn (by omega) hx (by omega)
  rwa [show topF l (xn : Int) = u from by unfold topF; rw [if_neg h0]; exact upF_some h3]
end
end Go.Proofs.Ytamjcafjdioidaa
