/- What the search's order is: each reachable block once, behind a predecessor; no program is in sight. No condition. -/
import Derived.Test.YtkhlnopbgngjbaaGrF
namespace Go.Proofs.Ytkhlnopbgngjbaa
set_option linter.unusedVariables false

/-- to be come to from block 0 -/
inductive Rch (succ : Int → List Int) : Int → Prop
  | start : Rch succ 0
  | step {x t : Int} : Rch succ x → t ∈ succ x → Rch succ t

/-- y stands somewhere behind x -/
def Behind (out : List Int) (x y : Int) : Prop := ∃ p q, out = p ++ x :: q ∧ y ∈ q
theorem Behind.more {out : List Int} {x y : Int} (h : Behind out x y) (l : List Int) : Behind (out ++ l) x y := by
  obtain ⟨p, q, rfl, hy⟩ := h
  exact ⟨p, q ++ l, by simp, List.mem_append_left _ hy⟩
theorem Behind.last {out : List Int} {x y : Int} (h : x ∈ out) : Behind (out ++ [y]) x y := by
  obtain ⟨p, q, rfl⟩ := List.append_of_mem h
  exact ⟨p, q ++ [y], by simp, by simp⟩
def Chain (succ : Int → List Int) : List Int → Prop
  | [] => True
  | [x] => x = 0
  | t :: b :: l => t ∈ succ b ∧ Chain succ (b :: l)
structure Inv (succ : Int → List Int) (n : Nat) (st : List (Int × List Int)) (marked : List Bool) (out : List Int) : Prop where
  ok : DfsOk n st marked out
  mark : ∀ x : Nat, marked[x]? = some true ↔ (x : Int) ∈ st.map Prod.fst ++ out
  nodup : (st.map Prod.fst ++ out).Nodup
  closed : ∀ x, x ∈ out → ∀ t, t ∈ succ x → t ∈ st.map Prod.fst ++ out
  partly : ∀ p, p ∈ st → ∀ t, t ∈ succ p.1 → t ∈ p.2 ∨ t ∈ st.map Prod.fst ++ out
  sub : ∀ p, p ∈ st → ∀ t, t ∈ p.2 → t ∈ succ p.1
  chain : Chain succ (st.map Prod.fst)
  ahead : ∀ x, x ∈ out → x ≠ 0 → ∃ y, x ∈ succ y ∧ (y ∈ st.map Prod.fst ∨ Behind out x y)
  reach : ∀ x, x ∈ st.map Prod.fst ++ out → Rch succ x
  first : st = [] → out.getLast? = some 0
theorem Inv.pop_first {succ : Int → List Int} {n : Nat} {b : Int} {marked : List Bool} {out : List Int} (h : Inv succ n [(b, [])] marked out) : (out ++ [b]).getLast? = some 0 := by
  have h1 : b = 0 := h.chain
  simp [h1]
theorem Inv.pop {succ : Int → List Int} {n : Nat} {b : Int} {st : List (Int × List Int)} {marked : List Bool} {out : List Int} (h : Inv succ n ((b, []) :: st) marked out) : Inv succ n st marked (out ++ [b]) := by
  have hmem : ∀ x, x ∈ st.map Prod.fst ++ (out ++ [b]) ↔ x ∈ ((b, []) :: st).map Prod.fst ++ out := fun x => by
    simp only [List.map_cons, List.cons_append, List.mem_cons, List.mem_append, List.not_mem_nil, or_false]
    constructor
    · rintro (h | h | h)
      · exact .inr (.inl h)
      · exact .inr (.inr h)
      · exact .inl h
    · rintro (h | h | h)
      · exact .inr (.inr h)
      · exact .inl h
      · exact .inr (.inl h)
  refine ⟨dfsOk_pop h.ok, fun x => (h.mark x).trans (hmem x).symm, ?_, ?_, ?_, fun p hp => h.sub p (List.mem_cons_of_mem _ hp), ?_, ?_, fun x hx => h.reach x ((hmem x).1 hx), fun e => by subst e; exact h.pop_first⟩
  · have h1 := h.nodup
    rw [List.map_cons, List.cons_append, List.nodup_cons] at h1
    rw [← List.append_assoc, List.nodup_append]
    exact ⟨h1.2, by simp, fun x hx y hy => by rw [List.mem_singleton.1 hy]; rintro rfl; exact h1.1 hx⟩
  · intro x hx t ht
    rw [hmem]
    rcases List.mem_append.1 hx with hx | hx
    · exact h.closed x hx t ht
    · rw [List.mem_singleton.1 hx] at ht
      rcases h.partly _ (List.mem_cons_self ..) t ht with h1 | h1
      · cases h1
      · exact h1
  · intro p hp t ht
    rw [hmem]
    exact h.partly p (List.mem_cons_of_mem _ hp) t ht
  · have h1 := h.chain
    cases st with
    | nil => trivial
    | cons p st => exact h1.2
  · intro x hx hx0
    rcases List.mem_append.1 hx with hx | hx
    · obtain ⟨y, h1, h2⟩ := h.ahead x hx hx0
      rcases h2 with h2 | h2
      · rcases List.mem_cons.1 h2 with h2 | h2
        · exact ⟨y, h1, .inr (by have h2 : y = b := h2; rw [h2]; exact Behind.last hx)⟩
        · exact ⟨y, h1, .inl h2⟩
      · exact ⟨y, h1, .inr (h2.more _)⟩
    · rw [List.mem_singleton.1 hx] at hx0 ⊢
      have h1 := h.chain
      cases st with
      | nil => exact (hx0 h1).elim
      | cons p st => exact ⟨p.1, h1.1, .inl (by simp)⟩
theorem Inv.skip {succ : Int → List Int} {n : Nat} {b t : Int} {ts : List Int} {st : List (Int × List Int)} {marked : List Bool} {out : List Int} (h : Inv succ n ((b, t :: ts) :: st) marked out) (hm : ¬ marked[t.toNat]? = some false) : Inv succ n ((b, ts) :: st) marked out := by
  have ht := (h.ok.inn _ (List.mem_cons_self ..)).2 t (List.mem_cons_self ..)
  have htm : t ∈ ((b, t :: ts) :: st).map Prod.fst ++ out := by
    have h1 : t.toNat < marked.length := by rw [h.ok.len]; omega
    have h2 := (h.mark t.toNat).1 (by
      rw [List.getElem?_eq_getElem h1] at hm ⊢
      cases hb : marked[t.toNat] with
      | true => rfl
      | false => rw [hb] at hm; exact (hm rfl).elim)
    rwa [Int.toNat_of_nonneg ht.1] at h2
  refine ⟨dfsOk_skip h.ok, h.mark, h.nodup, h.closed, fun p hp x hx => ?_, fun p hp x hx => ?_, h.chain, h.ahead, h.reach, fun e => by cases e⟩
  · rcases List.mem_cons.1 hp with rfl | hp
    · rcases h.partly _ (List.mem_cons_self ..) x hx with h1 | h1
      · rcases List.mem_cons.1 h1 with rfl | h1
        · exact .inr htm
        · exact .inl h1
      · exact .inr h1
    · exact h.partly p (List.mem_cons_of_mem _ hp) x hx
  · rcases List.mem_cons.1 hp with rfl | hp
    · exact h.sub _ (List.mem_cons_self ..) x (List.mem_cons_of_mem _ hx)
    · exact h.sub p (List.mem_cons_of_mem _ hp) x hx
theorem Inv.push {succ : Int → List Int} {n : Nat} {b t : Int} {ts : List Int} {st : List (Int × List Int)} {marked : List Bool} {out : List Int} (hs : ∀ x, SuccOk n (succ x)) (h : Inv succ n ((b, t :: ts) :: st) marked out) (hm : marked[t.toNat]? = some false) :
    Inv succ n ((t, succ t) :: (b, ts) :: st) (marked.set t.toNat true) out := by
  have ht := (h.ok.inn _ (List.mem_cons_self ..)).2 t (List.mem_cons_self ..)
  have hnt : t ∉ ((b, t :: ts) :: st).map Prod.fst ++ out := fun hin => by
    have := (h.mark t.toNat).2 (by rwa [Int.toNat_of_nonneg ht.1])
    rw [this] at hm
    cases hm
  have hsub := h.sub _ (List.mem_cons_self ..) t (List.mem_cons_self ..)
  refine ⟨dfsOk_push h.ok hm (hs t).bound, fun x => ?_, ?_, ?_, ?_, ?_, ⟨hsub, h.chain⟩, ?_, ?_, fun e => by cases e⟩
  · have h1 : t.toNat < marked.length := by rw [h.ok.len]; omega
    by_cases hx : t.toNat = x
    · subst hx
      rw [List.getElem?_set_self h1]
      simp [Int.toNat_of_nonneg ht.1]
    · rw [List.getElem?_set_ne hx, h.mark x]
      simp only [List.map_cons, List.cons_append, List.mem_cons]
      constructor
      · exact .inr
      · rintro (h2 | h2)
        · omega
        · exact h2
  · show (t :: (((b, ts) :: st).map Prod.fst ++ out)).Nodup
    exact List.nodup_cons.2 ⟨hnt, h.nodup⟩
  · exact fun x hx y hy => List.mem_cons_of_mem _ (h.closed x hx y hy)
  · intro p hp x hx
    rcases List.mem_cons.1 hp with rfl | hp
    · exact .inl hx
    rcases List.mem_cons.1 hp with rfl | hp
    · rcases h.partly _ (List.mem_cons_self ..) x hx with h1 | h1
      · rcases List.mem_cons.1 h1 with rfl | h1
        · exact .inr (List.mem_cons_self ..)
        · exact .inl h1
      · exact .inr (List.mem_cons_of_mem _ h1)
    · rcases h.partly p (List.mem_cons_of_mem _ hp) x hx with h1 | h1
      · exact .inl h1
      · exact .inr (List.mem_cons_of_mem _ h1)
  · intro p hp x hx
    rcases List.mem_cons.1 hp with rfl | hp
    · exact hx
    rcases List.mem_cons.1 hp with rfl | hp
    · exact h.sub _ (List.mem_cons_self ..) x (List.mem_cons_of_mem _ hx)
    · exact h.sub p (List.mem_cons_of_mem _ hp) x hx
  · intro x hx hx0
    obtain ⟨y, h1, h2⟩ := h.ahead x hx hx0
    exact ⟨y, h1, h2.elim (fun h => .inl (List.mem_cons_of_mem _ h)) .inr⟩
  · intro x hx
    rcases List.mem_cons.1 (show x ∈ t :: (((b, t :: ts) :: st).map Prod.fst ++ out) from hx) with rfl | hx
    · exact .step (h.reach b (by simp)) hsub
    · exact h.reach x hx
theorem inv_end {succ : Int → List Int} {n : Nat} (hs : ∀ x, SuccOk n (succ x)) (st : List (Int × List Int)) (marked : List Bool) (out : List Int) : Inv succ n st marked out → ∃ m', Inv succ n [] m' (dfs succ st marked out) := by
  induction st, marked, out using dfs.induct (succ := succ) with
  | case1 marked out => intro h; rw [dfs_nil]; exact ⟨_, h⟩
  | case2 marked out b st ih => intro h; rw [dfs_pop]; exact ih h.pop
  | case3 marked out b st t ts hm ih => intro h; rw [dfs_push hm]; exact ih (h.push hs hm)
  | case4 marked out b st t ts hm ih => intro h; rw [dfs_skip hm]; exact ih (h.skip hm)
theorem inv_start {succ : Int → List Int} {n : Nat} (hn : 0 < n) (hs : ∀ x, SuccOk n (succ x)) : Inv succ n [(0, succ 0)] ((List.replicate n false).set 0 true) [] := by
  refine ⟨dfsOk_start hn (hs 0).bound, fun x => ?_, by simp, fun x hx => (by cases hx), fun p hp t ht => ?_, fun p hp t ht => ?_, rfl, fun x hx => (by cases hx), fun x hx => ?_, fun e => by cases e⟩
  · by_cases hx : 0 = x
    · subst hx
      rw [List.getElem?_set_self (by simpa using hn)]
      simp
    · rw [List.getElem?_set_ne hx, List.getElem?_replicate]
      split
      · simp; omega
      · simp; omega
  · rw [List.mem_singleton.1 hp] at ht ⊢; exact .inl ht
  · rw [List.mem_singleton.1 hp] at ht ⊢; exact ht
  · have : x = 0 := by simpa using hx
    rw [this]; exact .start
theorem nodup_rev {l : List Int} (h : l.Nodup) : l.reverse.Nodup := by
  unfold List.Nodup at *
  rw [List.pairwise_reverse]
  exact h.imp fun h => h.symm
/-- what graph.Order answers -/
structure OrderOk (n : Nat) (succ : Int → List Int) (o : List Int) : Prop where
  nodup : o.Nodup
  mem : ∀ x, x ∈ o ↔ (0 < n ∧ Rch succ x)
  bound : ∀ x, x ∈ o → 0 ≤ x ∧ x < n
  head : 0 < n → o.head? = some 0
  ahead : ∀ x, x ∈ o → x ≠ 0 → ∃ y, x ∈ succ y ∧ ∃ p q, o = p ++ x :: q ∧ y ∈ p
theorem order_ok (bs : List (List Ins)) : OrderOk bs.length (succsF bs) (orderF bs) := by
  unfold orderF
  by_cases hn : bs.length = 0
  · rw [if_pos hn]
    exact ⟨List.nodup_nil, fun x => ⟨fun h => (by cases h), fun h => by omega⟩, fun x h => (by cases h), fun h => by omega, fun x h => (by cases h)⟩
  · rw [if_neg hn]
    obtain ⟨m', h⟩ := inv_end (succsF_ok bs) _ _ _ (inv_start (n := bs.length) (by omega) (succsF_ok bs))
    generalize dfs (succsF bs) [(0, succsF bs 0)] ((List.replicate bs.length false).set 0 true) [] = R at h
    have h0 : (0 : Int) ∈ R := List.mem_of_getLast? (h.first rfl)
    refine ⟨nodup_rev (by have := h.nodup; simpa using this), fun x => ⟨fun hx => ⟨by omega, h.reach x (by simpa using hx)⟩, fun hx => ?_⟩, fun x hx => h.ok.outs x (List.mem_reverse.1 hx), fun _ => by rw [List.head?_reverse]; exact h.first rfl, fun x hx hx0 => ?_⟩
    · rw [List.mem_reverse]
      have h1 : ∀ x, Rch (succsF bs) x → x ∈ R := fun x hx => by
        induction hx with
        | start => exact h0
        | step _ ht ih => simpa using h.closed _ ih _ ht
      exact h1 x hx.2
    · obtain ⟨y, h1, h2⟩ := h.ahead x (List.mem_reverse.1 hx) hx0
      rcases h2 with h2 | ⟨p, q, h2, h3⟩
      · cases h2
      · exact ⟨y, h1, q.reverse, p.reverse, by rw [h2]; simp, List.mem_reverse.2 h3⟩
/-- graph.Reach -/
def reachF (bs : List (List Ins)) : List Bool := (orderF bs).foldl (fun l b => l.set b.toNat true) (List.replicate bs.length false)
theorem setAll_len (l : List Bool) : ∀ (o : List Int) (l : List Bool), (o.foldl (fun l b => l.set b.toNat true) l).length = l.length
  | [], _ => rfl
  | b :: o, l => by rw [List.foldl_cons, setAll_len l o, List.length_set]
theorem setAll_at : ∀ (o : List Int) (l : List Bool) (k : Nat), k < l.length → (∀ x, x ∈ o → 0 ≤ x) → (o.foldl (fun l b => l.set b.toNat true) l)[k]? = some (decide ((k : Int) ∈ o) || l.getD k false)
  | [], l, k, h, _ => by simp [List.getD, h]
  | b :: o, l, k, h, hb => by
    have hb0 := hb b (List.mem_cons_self ..)
    rw [List.foldl_cons, setAll_at o _ k (by rw [List.length_set]; exact h) (fun x hx => hb x (List.mem_cons_of_mem _ hx))]
    congr 1
    by_cases hk : b.toNat = k
    · have e : (k : Int) = b := by omega
      subst hk
      simp [List.getD, h, e]
    · have e : (k : Int) ≠ b := by omega
      simp [List.getD, List.getElem?_set_ne hk, e]
theorem reach_len (bs : List (List Ins)) : (reachF bs).length = bs.length := by unfold reachF; rw [setAll_len []]; simp
theorem reach_at (bs : List (List Ins)) (k : Nat) (h : k < bs.length) : (reachF bs)[k]? = some (decide ((k : Int) ∈ orderF bs)) := by
  unfold reachF
  rw [setAll_at _ _ _ (by simpa using h) (fun x hx => ((order_ok bs).bound x hx).1)]
  simp [List.getD, h]
theorem order_len (bs : List (List Ins)) : (orderF bs).length ≤ bs.length := range_len _ _ (order_ok bs).nodup (order_ok bs).bound
end Go.Proofs.Ytkhlnopbgngjbaa
