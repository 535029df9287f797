/- Texts of the chain, without what is not wanted: GrV. No condition but sizes. -/
import Derived.Test.YtamjcafjdioidaaUz01
namespace Go.Proofs.Ytamjcafjdioidaa
def keepS (n : Nat) (acc : List Int) (t : Int) : List Int := if 0 ≤ t ∧ t < n ∧ t ∉ acc then acc ++ [t] else acc
def succsL (n : Nat) (to : List Int) : List Int := to.foldl (keepS n) []
def succsB (n : Nat) (x : List Ins) : List Int := match x.getLast? with
 | none => []
 | some i => if i.op = 31 ∨ i.op = 32 then succsL n i.to else []
def succsF (bs : List (List Ins)) (b : Int) : List Int := if 0 ≤ b then (match bs[b.toNat]? with | none => [] | some x => succsB bs.length x) else []
theorem succsL_take {n : Nat} {to : List Int} {k : Nat} {t : Int} (h : to[k]? = some t) : succsL n (to.take (k + 1)) = keepS n (succsL n (to.take k)) t := by
 rw [take_snoc h]
 unfold succsL
 rw [List.foldl_append]
 rfl
theorem keepS_no {n : Nat} {acc : List Int} {t : Int} (h : ¬ (0 ≤ t ∧ t < n ∧ t ∉ acc)) : keepS n acc t = acc := if_neg h
theorem keepS_yes {n : Nat} {acc : List Int} {t : Int} (h : 0 ≤ t ∧ t < n ∧ t ∉ acc) : keepS n acc t = acc ++ [t] := if_pos h
structure SuccOk (n : Nat) (l : List Int) : Prop where
 nodup : l.Nodup
 bound : ∀ t, t ∈ l → 0 ≤ t ∧ t < n
theorem succ_keep {n : Nat} {acc : List Int} {t : Int} (h : SuccOk n acc) : SuccOk n (keepS n acc t) := by
 unfold keepS
 split
 ·rename_i hc
  refine ⟨?_, fun x hx => ?_⟩
  ·rw [List.nodup_append]
   exact ⟨h.nodup, by simp, fun a ha b hb => by rw [List.mem_singleton.1 hb]; rintro rfl; exact hc.2.2 ha⟩
  ·rcases List.mem_append.1 hx with hx | hx
   ·exact h.bound x hx
   ·rw [List.mem_singleton.1 hx]; exact ⟨hc.1, hc.2.1⟩
 ·exact h
theorem succ_fold {n : Nat} : ∀ (to acc : List Int), SuccOk n acc → SuccOk n (to.foldl (keepS n) acc)
 | [], _, h => h
 | _ :: to, _, h => succ_fold to _ (succ_keep h)
theorem succsL_ok (n : Nat) (to : List Int) : SuccOk n (succsL n to) := succ_fold to [] ⟨List.nodup_nil, fun t h => by cases h⟩
theorem succsF_ok (bs : List (List Ins)) (b : Int) : SuccOk bs.length (succsF bs b) := by
 have h0 : SuccOk bs.length [] := ⟨List.nodup_nil, fun t h => by cases h⟩
 unfold succsF
 split
 ·split
  ·exact h0
  ·unfold succsB
   split
   ·exact h0
   ·split
    ·exact succsL_ok _ _
    ·exact h0
 ·exact h0
theorem range_len : ∀ (n : Nat) (l : List Int), l.Nodup → (∀ t, t ∈ l → 0 ≤ t ∧ t < n) → l.length ≤ n
 | 0, l, _, h => by
  cases l with
  | nil => exact Nat.le_refl _
  | cons x l => have := h x (List.mem_cons_self ..); omega
 | n + 1, l, hn, h => by
  have h1 := range_len n (l.erase (n : Int)) (hn.erase _) (fun t ht => by
   have h2 := (hn.mem_erase_iff).1 ht
   have h3 := h t h2.2
   have h4 := h2.1
   omega)
  have h5 : l.length ≤ (l.erase (n : Int)).length + 1 := by
   rw [List.length_erase]
   split <;> omega
  omega
theorem succ_len {n : Nat} {l : List Int} (h : SuccOk n l) : l.length ≤ n := range_len n l h.nodup h.bound
theorem fold_len {n : Nat} : ∀ (to acc : List Int), (to.foldl (keepS n) acc).length ≤ acc.length + to.length
 | [], _ => Nat.le_refl _
 | t :: to, acc => by
  have h1 := fold_len to (keepS n acc t) (n := n)
  have h2 : (keepS n acc t).length ≤ acc.length + 1 := by unfold keepS; split <;> simp
  rw [List.foldl_cons, List.length_cons]
  omega
theorem succsL_len (n : Nat) (to : List Int) : (succsL n to).length ≤ to.length := by exact Nat.le_trans (fold_len (n := n) to []) (by simp)
theorem succsL_take_len (n : Nat) (to : List Int) (k : Nat) : (succsL n (to.take k)).length ≤ to.length := Nat.le_trans (succsL_len _ _) (List.length_take_le' _ _)
theorem last_at {α : Type} {x : List α} (h : 0 < x.length) : ∃ i, x.getLast? = some i ∧ x[x.length - 1]? = some i := by
 rw [List.getLast?_eq_getElem?]
 exact ⟨_, List.getElem?_eq_getElem (by omega), List.getElem?_eq_getElem (by omega)⟩
end Go.Proofs.Ytamjcafjdioidaa
namespace Go.Proofs.Ytamjcafjdioidaa
set_option linter.unusedVariables false
def restSum (st : List (Int × List Int)) : Nat := (st.map fun p => p.2.length + 1).sum
theorem count_set {l : List Bool} : ∀ {k : Nat}, l[k]? = some false → (l.set k true).count false + 1 = l.count false := by
 induction l with
 | nil => intro k h; cases h
 | cons x l ih =>
  intro k h
  cases k with
  | zero =>
   simp at h
   subst h
   simp
  | succ k =>
   have := ih (k := k) (by simpa using h)
   rw [List.set_cons_succ, List.count_cons, List.count_cons]
   omega
def dfs (succ : Int → List Int) (st : List (Int × List Int)) (marked : List Bool) (out : List Int) : List Int :=
 match st with
 | [] => out
 | (b, []) :: st => dfs succ st marked (out ++ [b])
 | (b, t :: ts) :: st =>
  if h : marked[t.toNat]? = some false then dfs succ ((t, succ t) :: (b, ts) :: st) (marked.set t.toNat true) out
  else dfs succ ((b, ts) :: st) marked out
termination_by (marked.count false, restSum st)
decreasing_by
 ·exact Prod.Lex.right _ (by simp [restSum])
 ·exact Prod.Lex.left _ _ (by have := count_set h; omega)
 ·exact Prod.Lex.right _ (by simp [restSum])
theorem dfs_nil (succ : Int → List Int) (marked : List Bool) (out : List Int) : dfs succ [] marked out = out := by rw [dfs]
theorem dfs_pop (succ : Int → List Int) (b : Int) (st : List (Int × List Int)) (marked : List Bool) (out : List Int) : dfs succ ((b, []) :: st) marked out = dfs succ st marked (out ++ [b]) := by rw [dfs]
theorem dfs_push {succ : Int → List Int} {b t : Int} {ts : List Int} {st : List (Int × List Int)} {marked : List Bool} {out : List Int} (h : marked[t.toNat]? = some false) : dfs succ ((b, t :: ts) :: st) marked out = dfs succ ((t, succ t) :: (b, ts) :: st) (marked.set t.toNat true) out := by rw [dfs, dif_pos h]
theorem dfs_skip {succ : Int → List Int} {b t : Int} {ts : List Int} {st : List (Int × List Int)} {marked : List Bool} {out : List Int} (h : ¬ marked[t.toNat]? = some false) : dfs succ ((b, t :: ts) :: st) marked out = dfs succ ((b, ts) :: st) marked out := by rw [dfs, dif_neg h]
def orderF (bs : List (List Ins)) : List Int := if bs.length = 0 then [] else (dfs (succsF bs) [(0, succsF bs 0)] ((List.replicate bs.length false).set 0 true) []).reverse
def mu (n : Nat) (st : List (Int × List Int)) (marked : List Bool) : Nat := (n + 2) * marked.count false + restSum st
theorem mu_pop (n : Nat) (b : Int) (st : List (Int × List Int)) (marked : List Bool) : mu n st marked < mu n ((b, []) :: st) marked := by simp [mu, restSum]
theorem mu_skip (n : Nat) (b t : Int) (ts : List Int) (st : List (Int × List Int)) (marked : List Bool) : mu n ((b, ts) :: st) marked < mu n ((b, t :: ts) :: st) marked := by simp [mu, restSum]
theorem mu_push {n : Nat} {b t : Int} {ts l : List Int} {st : List (Int × List Int)} {marked : List Bool} (h : marked[t.toNat]? = some false) (hl : l.length ≤ n) : mu n ((t, l) :: (b, ts) :: st) (marked.set t.toNat true) < mu n ((b, t :: ts) :: st) marked := by
 have h1 := count_set h
 simp only [mu, restSum, List.map_cons, List.sum_cons, List.length_cons]
 rw [← h1, Nat.mul_add, Nat.mul_one]
 omega
structure DfsOk (n : Nat) (st : List (Int × List Int)) (marked : List Bool) (out : List Int) : Prop where
 len : marked.length = n
 room : st.length + out.length + marked.count false ≤ n
 inn : ∀ p, p ∈ st → (0 ≤ p.1 ∧ p.1 < n) ∧ ∀ t, t ∈ p.2 → 0 ≤ t ∧ t < n
 outs : ∀ t, t ∈ out → 0 ≤ t ∧ t < n
theorem dfsOk_pop {n : Nat} {b : Int} {st : List (Int × List Int)} {marked : List Bool} {out : List Int} (h : DfsOk n ((b, []) :: st) marked out) : DfsOk n st marked (out ++ [b]) :=
 ⟨h.len, by have := h.room; simp at this ⊢; omega, fun p hp => h.inn p (List.mem_cons_of_mem _ hp), fun t ht => by
  rcases List.mem_append.1 ht with ht | ht
  ·exact h.outs t ht
  ·rw [List.mem_singleton.1 ht]; exact (h.inn _ (List.mem_cons_self ..)).1⟩
theorem dfsOk_skip {n : Nat} {b t : Int} {ts : List Int} {st : List (Int × List Int)} {marked : List Bool} {out : List Int} (h : DfsOk n ((b, t :: ts) :: st) marked out) : DfsOk n ((b, ts) :: st) marked out :=
 ⟨h.len, by have := h.room; simpa using this, fun p hp => by
  rcases List.mem_cons.1 hp with rfl | hp
  ·have := h.inn _ (List.mem_cons_self ..)
   exact ⟨this.1, fun t' ht' => this.2 t' (List.mem_cons_of_mem _ ht')⟩
  ·exact h.inn p (List.mem_cons_of_mem _ hp), h.outs⟩
theorem dfsOk_push {n : Nat} {b t : Int} {ts l : List Int} {st : List (Int × List Int)} {marked : List Bool} {out : List Int} (h : DfsOk n ((b, t :: ts) :: st) marked out) (hm : marked[t.toNat]? = some false) (hl : ∀ t, t ∈ l → 0 ≤ t ∧ t < n) :
  DfsOk n ((t, l) :: (b, ts) :: st) (marked.set t.toNat true) out := by
 have h1 := count_set hm
 have h2 := dfsOk_skip h
 refine ⟨by rw [List.length_set]; exact h.len, by have := h.room; simp at this ⊢; omega, fun p hp => ?_, h.outs⟩
 rcases List.mem_cons.1 hp with rfl | hp
 ·exact ⟨(h.inn _ (List.mem_cons_self ..)).2 t (List.mem_cons_self ..), hl⟩
 ·exact h2.inn p hp
theorem dfsOk_start {n : Nat} {l : List Int} (hn : 0 < n) (hl : ∀ t, t ∈ l → 0 ≤ t ∧ t < n) : DfsOk n [(0, l)] ((List.replicate n false).set 0 true) [] := by
 have h1 := count_set (l := List.replicate n false) (k := 0) (by simp [hn])
 refine ⟨by simp, by simp at h1 ⊢; omega, fun p hp => ?_, fun t ht => by cases ht⟩
 rw [List.mem_singleton.1 hp]
 exact ⟨⟨by omega, by simp; omega⟩, hl⟩
end Go.Proofs.Ytamjcafjdioidaa
namespace Go.Proofs.Ytamjcafjdioidaa
set_option linter.unusedVariables false
inductive Rch (succ : Int → List Int) : Int → Prop
 | start : Rch succ 0
 | step {x t : Int} : Rch succ x → t ∈ succ x → Rch succ t
def Behind (out : List Int) (x y : Int) : Prop := ∃ p q, out = p ++ x :: q ∧ y ∈ q
theorem Behind.more {out : List Int} {x y : Int} (h : Behind out x y) (l : List Int) : Behind (out ++ l) x y := by
 obtain ⟨p, q, rfl, hy⟩ := h
 exact ⟨p, q ++ l, by simp, List.mem_append_left _ hy⟩
theorem Behind.last {out : List Int} {x y : Int} (h : x ∈ out) : Behind (out ++ [y]) x y := by
 obtain ⟨p, q, rfl⟩ := List.append_of_mem h
 exact ⟨p, q ++ [y], by simp, by simp⟩
def Chain (succ : Int → List Int) : List Int → Prop
 | [] => True
 | [x] => x = 0
 | t :: b :: l => t ∈ succ b ∧ Chain succ (b :: l)
structure Inv (succ : Int → List Int) (n : Nat) (st : List (Int × List Int)) (marked : List Bool) (out : List Int) : Prop where
 ok : DfsOk n st marked out
 mark : ∀ x : Nat, marked[x]? = some true ↔ (x : Int) ∈ st.map Prod.fst ++ out
 nodup : (st.map Prod.fst ++ out).Nodup
 closed : ∀ x, x ∈ out → ∀ t, t ∈ succ x → t ∈ st.map Prod.fst ++ out
 partly : ∀ p, p ∈ st → ∀ t, t ∈ succ p.1 → t ∈ p.2 ∨ t ∈ st.map Prod.fst ++ out
 sub : ∀ p, p ∈ st → ∀ t, t ∈ p.2 → t ∈ succ p.1
 chain : Chain succ (st.map Prod.fst)
 ahead : ∀ x, x ∈ out → x ≠ 0 → ∃ y, x ∈ succ y ∧ (y ∈ st.map Prod.fst ∨ Behind out x y)
 reach : ∀ x, x ∈ st.map Prod.fst ++ out → Rch succ x
 first : st = [] → out.getLast? = some 0
theorem Inv.pop_first {succ : Int → List Int} {n : Nat} {b : Int} {marked : List Bool} {out : List Int} (h : Inv succ n [(b, [])] marked out) : (out ++ [b]).getLast? = some 0 := by
 have h1 : b = 0 := h.chain
 simp [h1]
theorem Inv.pop {succ : Int → List Int} {n : Nat} {b : Int} {st : List (Int × List Int)} {marked : List Bool} {out : List Int} (h : Inv succ n ((b, []) :: st) marked out) : Inv succ n st marked (out ++ [b]) := by
 have hmem : ∀ x, x ∈ st.map Prod.fst ++ (out ++ [b]) ↔ x ∈ ((b, []) :: st).map Prod.fst ++ out := fun x => by
  simp only [List.map_cons, List.cons_append, List.mem_cons, List.mem_append, List.not_mem_nil, or_false]
  constructor
  ·rintro (h | h | h)
   ·exact .inr (.inl h)
   ·exact .inr (.inr h)
   ·exact .inl h
  ·rintro (h | h | h)
   ·exact .inr (.inr h)
   ·exact .inl h
   ·exact .inr (.inl h)
 refine ⟨dfsOk_pop h.ok, fun x => (h.mark x).trans (hmem x).symm, ?_, ?_, ?_, fun p hp => h.sub p (List.mem_cons_of_mem _ hp), ?_, ?_, fun x hx => h.reach x ((hmem x).1 hx), fun e => by subst e; exact h.pop_first⟩
 ·have h1 := h.nodup
  rw [List.map_cons, List.cons_append, List.nodup_cons] at h1
  rw [← List.append_assoc, List.nodup_append]
  exact ⟨h1.2, by simp, fun x hx y hy => by rw [List.mem_singleton.1 hy]; rintro rfl; exact h1.1 hx⟩
 ·intro x hx t ht
  rw [hmem]
  rcases List.mem_append.1 hx with hx | hx
  ·exact h.closed x hx t ht
  ·rw [List.mem_singleton.1 hx] at ht
   rcases h.partly _ (List.mem_cons_self ..) t ht with h1 | h1
   ·cases h1
   ·exact h1
 ·intro p hp t ht
  rw [hmem]
  exact h.partly p (List.mem_cons_of_mem _ hp) t ht
 ·have h1 := h.chain
  cases st with
  | nil => trivial
  | cons p st => exact h1.2
 ·intro x hx hx0
  rcases List.mem_append.1 hx with hx | hx
  ·obtain ⟨y, h1, h2⟩ := h.ahead x hx hx0
   rcases h2 with h2 | h2
   ·rcases List.mem_cons.1 h2 with h2 | h2
    ·exact ⟨y, h1, .inr (by have h2 : y = b := h2; rw [h2]; exact Behind.last hx)⟩
    ·exact ⟨y, h1, .inl h2⟩
   ·exact ⟨y, h1, .inr (h2.more _)⟩
  ·rw [List.mem_singleton.1 hx] at hx0 ⊢
   have h1 := h.chain
   cases st with
   | nil => exact (hx0 h1).elim
   | cons p st => exact ⟨p.1, h1.1, .inl (by simp)⟩
theorem Inv.skip {succ : Int → List Int} {n : Nat} {b t : Int} {ts : List Int} {st : List (Int × List Int)} {marked : List Bool} {out : List Int} (h : Inv succ n ((b, t :: ts) :: st) marked out) (hm : ¬ marked[t.toNat]? = some false) : Inv succ n ((b, ts) :: st) marked out := by
 have ht := (h.ok.inn _ (List.mem_cons_self ..)).2 t (List.mem_cons_self ..)
 have htm : t ∈ ((b, t :: ts) :: st).map Prod.fst ++ out := by
  have h1 : t.toNat < marked.length := by rw [h.ok.len]; omega
  have h2 := (h.mark t.toNat).1 (by
   rw [List.getElem?_eq_getElem h1] at hm ⊢
   cases hb : marked[t.toNat] with
   | true => rfl
   | false => rw [hb] at hm; exact (hm rfl).elim)
  rwa [Int.toNat_of_nonneg ht.1] at h2
 refine ⟨dfsOk_skip h.ok, h.mark, h.nodup, h.closed, fun p hp x hx => ?_, fun p hp x hx => ?_, h.chain, h.ahead, h.reach, fun e => by cases e⟩
 ·rcases List.mem_cons.1 hp with rfl | hp
  ·rcases h.partly _ (List.mem_cons_self ..) x hx with h1 | h1
   ·rcases List.mem_cons.1 h1 with rfl | h1
    ·exact .inr htm
    ·exact .inl h1
   ·exact .inr h1
  ·exact h.partly p (List.mem_cons_of_mem _ hp) x hx
 ·rcases List.mem_cons.1 hp with rfl | hp
  ·exact h.sub _ (List.mem_cons_self ..) x (List.mem_cons_of_mem _ hx)
  ·exact h.sub p (List.mem_cons_of_mem _ hp) x hx
theorem Inv.push {succ : Int → List Int} {n : Nat} {b t : Int} {ts : List Int} {st : List (Int × List Int)} {marked : List Bool} {out : List Int} (hs : ∀ x, SuccOk n (succ x)) (h : Inv succ n ((b, t :: ts) :: st) marked out) (hm : marked[t.toNat]? = some false) :
  Inv succ n ((t, succ t) :: (b, ts) :: st) (marked.set t.toNat true) out := by
 have ht := (h.ok.inn _ (List.mem_cons_self ..)).2 t (List.mem_cons_self ..)
 have hnt : t ∉ ((b, t :: ts) :: st).map Prod.fst ++ out := fun hin => by
  have := (h.mark t.toNat).2 (by rwa [Int.toNat_of_nonneg ht.1])
  rw [this] at hm
  cases hm
 have hsub := h.sub _ (List.mem_cons_self ..) t (List.mem_cons_self ..)
 refine ⟨dfsOk_push h.ok hm (hs t).bound, fun x => ?_, ?_, ?_, ?_, ?_, ⟨hsub, h.chain⟩, ?_, ?_, fun e => by cases e⟩
 ·have h1 : t.toNat < marked.length := by rw [h.ok.len]; omega
  by_cases hx : t.toNat = x
  ·subst hx
   rw [List.getElem?_set_self h1]
   simp [Int.toNat_of_nonneg ht.1]
  ·rw [List.getElem?_set_ne hx, h.mark x]
   simp only [List.map_cons, List.cons_append, List.mem_cons]
   constructor
   ·exact .inr
   ·rintro (h2 | h2)
    ·omega
    ·exact h2
 ·show (t :: (((b, ts) :: st).map Prod.fst ++ out)).Nodup
  exact List.nodup_cons.2 ⟨hnt, h.nodup⟩
 ·exact fun x hx y hy => List.mem_cons_of_mem _ (h.closed x hx y hy)
 ·intro p hp x hx
  rcases List.mem_cons.1 hp with rfl | hp
  ·exact .inl hx
  rcases List.mem_cons.1 hp with rfl | hp
  ·rcases h.partly _ (List.mem_cons_self ..) x hx with h1 | h1
   ·rcases List.mem_cons.1 h1 with rfl | h1
    ·exact .inr (List.mem_cons_self ..)
    ·exact .inl h1
   ·exact .inr (List.mem_cons_of_mem _ h1)
  ·rcases h.partly p (List.mem_cons_of_mem _ hp) x hx with h1 | h1
   ·exact .inl h1
   ·exact .inr (List.mem_cons_of_mem _ h1)
 ·intro p hp x hx
  rcases List.mem_cons.1 hp with rfl | hp
  ·exact hx
  rcases List.mem_cons.1 hp with rfl | hp
  ·exact h.sub _ (List.mem_cons_self ..) x (List.mem_cons_of_mem _ hx)
  ·exact h.sub p (List.mem_cons_of_mem _ hp) x hx
 ·intro x hx hx0
  obtain ⟨y, h1, h2⟩ := h.ahead x hx hx0
  exact ⟨y, h1, h2.elim (fun h => .inl (List.mem_cons_of_mem _ h)) .inr⟩
 ·intro x hx
  rcases List.mem_cons.1 (show x ∈ t :: (((b, t :: ts) :: st).map Prod.fst ++ out) from hx) with rfl | hx
  ·exact .step (h.reach b (by simp)) hsub
  ·exact h.reach x hx
theorem inv_end {succ : Int → List Int} {n : Nat} (hs : ∀ x, SuccOk n (succ x)) (st : List (Int × List Int)) (marked : List Bool) (out : List Int) : Inv succ n st marked out → ∃ m', Inv succ n [] m' (dfs succ st marked out) := by
 induction st, marked, out using dfs.induct (succ := succ) with
 | case1 marked out => intro h; rw [dfs_nil]; exact ⟨_, h⟩
 | case2 marked out b st ih => intro h; rw [dfs_pop]; exact ih h.pop
 | case3 marked out b st t ts hm ih => intro h; rw [dfs_push hm]; exact ih (h.push hs hm)
 | case4 marked out b st t ts hm ih => intro h; rw [dfs_skip hm]; exact ih (h.skip hm)
theorem inv_start {succ : Int → List Int} {n : Nat} (hn : 0 < n) (hs : ∀ x, SuccOk n (succ x)) : Inv succ n [(0, succ 0)] ((List.replicate n false).set 0 true) [] := by
 refine ⟨dfsOk_start hn (hs 0).bound, fun x => ?_, by simp, fun x hx => (by cases hx), fun p hp t ht => ?_, fun p hp t ht => ?_, rfl, fun x hx => (by cases hx), fun x hx => ?_, fun e => by cases e⟩
 ·by_cases hx : 0 = x
  ·subst hx
   rw [List.getElem?_set_self (by simpa using hn)]
   simp
  ·rw [List.getElem?_set_ne hx, List.getElem?_replicate]
   split
   ·simp; omega
   ·simp; omega
 ·rw [List.mem_singleton.1 hp] at ht ⊢; exact .inl ht
 ·rw [List.mem_singleton.1 hp] at ht ⊢; exact ht
 ·have : x = 0 := by simpa using hx
  rw [this]; exact .start
theorem nodup_rev {l : List Int} (h : l.Nodup) : l.reverse.Nodup := by
 unfold List.Nodup at *
 rw [List.pairwise_reverse]
 exact h.imp fun h => h.symm
structure OrderOk (n : Nat) (succ : Int → List Int) (o : List Int) : Prop where
 nodup : o.Nodup
 mem : ∀ x, x ∈ o ↔ (0 < n ∧ Rch succ x)
 bound : ∀ x, x ∈ o → 0 ≤ x ∧ x < n
 head : 0 < n → o.head? = some 0
 ahead : ∀ x, x ∈ o → x ≠ 0 → ∃ y, x ∈ succ y ∧ ∃ p q, o = p ++ x :: q ∧ y ∈ p
theorem order_ok (bs : List (List Ins)) : OrderOk bs.length (succsF bs) (orderF bs) := by
 unfold orderF
 by_cases hn : bs.length = 0
 ·rw [if_pos hn]
  exact ⟨List.nodup_nil, fun x => ⟨fun h => (by cases h), fun h => by omega⟩, fun x h => (by cases h), fun h => by omega, fun x h => (by cases h)⟩
 ·rw [if_neg hn]
  obtain ⟨m', h⟩ := inv_end (succsF_ok bs) _ _ _ (inv_start (n := bs.length) (by omega) (succsF_ok bs))
  generalize dfs (succsF bs) [(0, succsF bs 0)] ((List.replicate bs.length false).set 0 true) [] = R at h
  have h0 : (0 : Int) ∈ R := List.mem_of_getLast? (h.first rfl)
  refine ⟨nodup_rev (by have := h.nodup; simpa using this), fun x => ⟨fun hx => ⟨by omega, h.reach x (by simpa using hx)⟩, fun hx => ?_⟩, fun x hx => h.ok.outs x (List.mem_reverse.1 hx), fun _ => by rw [List.head?_reverse]; exact h.first rfl, fun x hx hx0 => ?_⟩
  ·rw [List.mem_reverse]
   have h1 : ∀ x, Rch (succsF bs) x → x ∈ R := fun x hx => by
    induction hx with
    | start => exact h0
    | step _ ht ih => simpa using h.closed _ ih _ ht
   exact h1 x hx.2
  ·obtain ⟨y, h1, h2⟩ := h.ahead x (List.mem_reverse.1 hx) hx0
   rcases h2 with h2 | ⟨p, q, h2, h3⟩
   ·cases h2
   ·exact ⟨y, h1, q.reverse, p.reverse, by rw [h2]; simp, List.mem_reverse.2 h3⟩
def reachF (bs : List (List Ins)) : List Bool := (orderF bs).foldl (fun l b => l.set b.toNat true) (List.replicate bs.length false)
theorem setAll_len (l : List Bool) : ∀ (o : List Int) (l : List Bool), (o.foldl (fun l b => l.set b.toNat true) l).length = l.length
 | [], _ => rfl
 | b :: o, l => by rw [List.foldl_cons, setAll_len l o, List.length_set]
theorem setAll_at : ∀ (o : List Int) (l : List Bool) (k : Nat), k < l.length → (∀ x, x ∈ o → 0 ≤ x) → (o.foldl (fun l b => l.set b.toNat true) l)[k]? = some (decide ((k : Int) ∈ o) || l.getD k false)
 | [], l, k, h, _ => by simp [List.getD, h]
 | b :: o, l, k, h, hb => by
  have hb0 := hb b (List.mem_cons_self ..)
  rw [List.foldl_cons, setAll_at o _ k (by rw [List.length_set]; exact h) (fun x hx => hb x (List.mem_cons_of_mem _ hx))]
  congr 1
  by_cases hk : b.toNat = k
  ·have e : (k : Int) = b := by omega
   subst hk
   simp [List.getD, h, e]
  ·have e : (k : Int) ≠ b := by omega
   simp [List.getD, List.getElem?_set_ne hk, e]
theorem reach_len (bs : List (List Ins)) : (reachF bs).length = bs.length := by unfold reachF; rw [setAll_len []]; simp
theorem reach_at (bs : List (List Ins)) (k : Nat) (h : k < bs.length) : (reachF bs)[k]? = some (decide ((k : Int) ∈ orderF bs)) := by
 unfold reachF
 rw [setAll_at _ _ _ (by simpa using h) (fun x hx => ((order_ok bs).bound x hx).1)]
 simp [List.getD, h]
theorem order_len (bs : List (List Ins)) : (orderF bs).length ≤ bs.length := range_len _ _ (order_ok bs).nodup (order_ok bs).bound
end Go.Proofs.Ytamjcafjdioidaa
namespace Go.Proofs.Ytamjcafjdioidaa
set_option linter.unusedVariables false
inductive RchW (sc : Int → List Int) (gone : Int) : Int → Prop
 | start : gone ≠ 0 → RchW sc gone 0
 | step {x t : Int} : RchW sc gone x → t ∈ sc x → t ≠ gone → RchW sc gone t
theorem rchW_all {sc : Int → List Int} {n : Nat} (hs : ∀ b, SuccOk n (sc b)) (x : Int) : RchW sc (-1) x ↔ Rch sc x := by
 constructor
 ·intro h
  induction h with
  | start => exact .start
  | step _ ht _ ih => exact .step ih ht
 ·intro h
  induction h with
  | start => exact .start (by decide)
  | step _ ht ih => exact .step ih ht (by have := ((hs _).bound _ ht).1; omega)
def ClosedAt (sc : Int → List Int) (gone : Int) (l : List Bool) (b i : Nat) : Prop := ∀ t : Nat, (t : Int) ∈ (sc b).take i → (t : Int) ≠ gone → l[t]? = some true
structure WInv (sc : Int → List Int) (gone : Int) (n : Nat) (l0 l : List Bool) (more : Bool) (b : Nat) : Prop where
 len : l.length = n
 zero : l[0]? = some true
 sound : ∀ k : Nat, l[k]? = some true → RchW sc gone k
 same : more = false → l = l0
 le : l.count false ≤ l0.count false
 less : more = true → l.count false < l0.count false
 closed : more = false → ∀ b' : Nat, b' < b → l[b']? = some true → ClosedAt sc gone l b' (sc b').length
structure WInvI (sc : Int → List Int) (gone : Int) (n : Nat) (l0 l : List Bool) (more : Bool) (b i : Nat) : Prop where
 inv : WInv sc gone n l0 l more b
 here : more = false → ClosedAt sc gone l b i
structure WOut (sc : Int → List Int) (gone : Int) (n : Nat) (l : List Bool) (more : Bool) : Prop where
 len : l.length = n
 zero : l[0]? = some true
 sound : ∀ k : Nat, l[k]? = some true → RchW sc gone k
 closed : more = false → ∀ b' : Nat, b' < n → l[b']? = some true → ClosedAt sc gone l b' (sc b').length
section
variable {sc : Int → List Int} {gone : Int} {n : Nat} {l0 l : List Bool} {more : Bool} {b i : Nat}
theorem wout_start (hn : 0 < n) (hg : gone ≠ 0) : WOut sc gone n ((List.replicate n false).set 0 true) true := by
 refine ⟨by simp, List.getElem?_set_self (by simpa using hn), fun k hk => ?_, fun h => by cases h⟩
 by_cases h0 : 0 = k
 ·subst h0; exact .start hg
 ·rw [List.getElem?_set_ne h0, List.getElem?_replicate] at hk
  split at hk <;> cases hk
theorem winv_start (h : WOut sc gone n l true) : WInv sc gone n l l false 0 :=
 ⟨h.len, h.zero, h.sound, fun _ => rfl, Nat.le_refl _, (fun h => by cases h), fun _ b' hb => by omega⟩
theorem winv_in (h : WInv sc gone n l0 l more b) : WInvI sc gone n l0 l more b 0 :=
 ⟨h, fun _ t ht => by rw [List.take_zero] at ht; cases ht⟩
theorem wI_skip {t : Nat} (h : WInvI sc gone n l0 l more b i) (ht : (sc b)[i]? = some (t : Int)) (hk : (t : Int) = gone ∨ l[t]? = some true) : WInvI sc gone n l0 l more b (i + 1) :=
 ⟨h.inv, fun hm t' ht' hg => by
  rw [List.take_add_one, ht] at ht'
  rcases List.mem_append.1 ht' with h1 | h1
  ·exact h.here hm t' h1 hg
  ·have e : (t' : Int) = t := by simpa using h1
   have e' : t' = t := by omega
   subst e'
   exact hk.resolve_left hg⟩
theorem wI_mark {t : Nat} (h : WInvI sc gone n l0 l more b i) (hb : l[b]? = some true) (ht : (sc b)[i]? = some (t : Int)) (hg : (t : Int) ≠ gone) (hm : l[t]? = some false) : WInvI sc gone n l0 (l.set t true) true b (i + 1) := by
 have hc := count_set hm
 have h1 := h.inv.le
 refine ⟨⟨by rw [List.length_set]; exact h.inv.len, ?_, fun k hk => ?_, (fun h => by cases h), by omega, fun _ => by omega, fun h => by cases h⟩, fun h => by cases h⟩
 ·by_cases h0 : t = 0
  ·subst h0; exact List.getElem?_set_self (List.getElem?_eq_some_iff.1 hm).1
  ·rw [List.getElem?_set_ne h0]; exact h.inv.zero
 ·by_cases h0 : t = k
  ·subst h0; exact .step (h.inv.sound b hb) (List.mem_of_getElem? ht) hg
  ·rw [List.getElem?_set_ne h0] at hk; exact h.inv.sound k hk
theorem wI_end (h : WInvI sc gone n l0 l more b (sc b).length) : WInv sc gone n l0 l more (b + 1) :=
 ⟨h.inv.len, h.inv.zero, h.inv.sound, h.inv.same, h.inv.le, h.inv.less, fun hm b' hb hl => by
  by_cases e : b' = b
  ·subst e; exact h.here hm
  ·exact h.inv.closed hm b' (by omega) hl⟩
theorem winv_dead (h : WInv sc gone n l0 l more b) (hb : l[b]? = some false) : WInv sc gone n l0 l more (b + 1) :=
 ⟨h.len, h.zero, h.sound, h.same, h.le, h.less, fun hm b' hb' hl => by
  by_cases e : b' = b
  ·subst e; rw [hb] at hl; cases hl
  ·exact h.closed hm b' (by omega) hl⟩
theorem winv_out (h : WInv sc gone n l0 l more n) : WOut sc gone n l more := ⟨h.len, h.zero, h.sound, h.closed⟩
theorem wout_end (hs : ∀ b, SuccOk n (sc b)) (h : WOut sc gone n l false) (k : Nat) : l[k]? = some true ↔ (k < n ∧ RchW sc gone k) := by
 have h1 : ∀ x, RchW sc gone x → l[x.toNat]? = some true := fun x hx => by
  induction hx with
  | start => exact h.zero
  | @step x t hx ht hg ih =>
   have hx0 : 0 ≤ x ∧ x.toNat < n := by
    cases hx with
    | start => exact ⟨by omega, by have := (List.getElem?_eq_some_iff.1 ih).1; have := h.len; omega⟩
    | step _ h1 _ => have := (hs _).bound _ h1; omega
   have ht0 := (hs x).bound t ht
   have h2 := h.closed rfl x.toNat hx0.2 ih t.toNat
   rw [Int.toNat_of_nonneg hx0.1, Int.toNat_of_nonneg ht0.1, List.take_length] at h2
   exact h2 ht hg
 exact ⟨fun hk => ⟨by have := (List.getElem?_eq_some_iff.1 hk).1; rw [h.len] at this; exact this, h.sound k hk⟩, fun hk => by have := h1 _ hk.2; rwa [Int.toNat_natCast] at this⟩
end
structure WOk (sc : Int → List Int) (gone : Int) (n : Nat) (l : List Bool) : Prop where
 len : l.length = n
 iff : ∀ k : Nat, l[k]? = some true ↔ (k < n ∧ RchW sc gone k)
theorem wok_unique {sc : Int → List Int} {gone : Int} {n : Nat} {l l' : List Bool} (h : WOk sc gone n l) (h' : WOk sc gone n l') : l = l' := by
 refine List.ext_getElem? fun k => ?_
 have h1 := h.iff k
 have h2 := h'.iff k
 by_cases hk : k < n
 ·obtain ⟨x, e1⟩ : ∃ x, l[k]? = some x := ⟨_, List.getElem?_eq_getElem (by rw [h.len]; exact hk)⟩
  obtain ⟨y, e2⟩ : ∃ y, l'[k]? = some y := ⟨_, List.getElem?_eq_getElem (by rw [h'.len]; exact hk)⟩
  rw [e1] at h1
  rw [e2] at h2
  rw [e1, e2]
  have h3 := h1.trans h2.symm
  cases x <;> cases y <;> simp_all
 ·rw [List.getElem?_eq_none (by rw [h.len]; omega), List.getElem?_eq_none (by rw [h'.len]; omega)]
theorem wok_reach (bs : List (List Ins)) : WOk (succsF bs) (-1) bs.length (reachF bs) := by
 refine ⟨reach_len bs, fun k => ?_⟩
 by_cases hk : k < bs.length
 ·rw [reach_at bs k hk, rchW_all (succsF_ok bs)]
  simp only [Option.some.injEq, decide_eq_true_eq]
  rw [(order_ok bs).mem]
  exact ⟨fun h => ⟨hk, h.2⟩, fun h => ⟨by omega, h.2⟩⟩
 ·rw [List.getElem?_eq_none (by rw [reach_len]; omega)]
  exact ⟨(fun h => by cases h), fun h => absurd h.1 hk⟩
theorem wok_none {sc : Int → List Int} {gone : Int} {n : Nat} (h : n = 0 ∨ gone = 0) : WOk sc gone n (List.replicate n false) := by
 refine ⟨by simp, fun k => ⟨fun hk => ?_, fun hk => ?_⟩⟩
 ·rw [List.getElem?_replicate] at hk
  split at hk <;> cases hk
 ·rcases h with h | h
  ·omega
  ·exfalso
   have : ∀ x, RchW sc gone x → False := fun x hx => by
    induction hx with
    | start h0 => exact h0 h
    | step _ _ _ ih => exact ih
   exact this _ hk.2
end Go.Proofs.Ytamjcafjdioidaa
