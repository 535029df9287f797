/- The order of blocks: a search with its own stack; no program is in sight. No condition. -/
import Derived.Test.YtkhlnopbgngjbaaGrD
namespace Go.Proofs.Ytkhlnopbgngjbaa
set_option linter.unusedVariables false

def restSum (st : List (Int × List Int)) : Nat := (st.map fun p => p.2.length + 1).sum
theorem count_set {l : List Bool} : ∀ {k : Nat}, l[k]? = some false → (l.set k true).count false + 1 = l.count false := by
  induction l with
  | nil => intro k h; cases h
  | cons x l ih =>
    intro k h
    cases k with
    | zero =>
      simp at h
      subst h
      simp
    | succ k =>
      have := ih (k := k) (by simpa using h)
      rw [List.set_cons_succ, List.count_cons, List.count_cons]
      omega
/-- the search: the stack (its top ahead), what is marked, what was put out -/
def dfs (succ : Int → List Int) (st : List (Int × List Int)) (marked : List Bool) (out : List Int) : List Int :=
  match st with
  | [] => out
  | (b, []) :: st => dfs succ st marked (out ++ [b])
  | (b, t :: ts) :: st =>
    if h : marked[t.toNat]? = some false then dfs succ ((t, succ t) :: (b, ts) :: st) (marked.set t.toNat true) out
    else dfs succ ((b, ts) :: st) marked out
termination_by (marked.count false, restSum st)
decreasing_by
  · exact Prod.Lex.right _ (by simp [restSum])
  · exact Prod.Lex.left _ _ (by have := count_set h; omega)
  · exact Prod.Lex.right _ (by simp [restSum])
theorem dfs_nil (succ : Int → List Int) (marked : List Bool) (out : List Int) : dfs succ [] marked out = out := by rw [dfs]
theorem dfs_pop (succ : Int → List Int) (b : Int) (st : List (Int × List Int)) (marked : List Bool) (out : List Int) : dfs succ ((b, []) :: st) marked out = dfs succ st marked (out ++ [b]) := by rw [dfs]
theorem dfs_push {succ : Int → List Int} {b t : Int} {ts : List Int} {st : List (Int × List Int)} {marked : List Bool} {out : List Int} (h : marked[t.toNat]? = some false) : dfs succ ((b, t :: ts) :: st) marked out = dfs succ ((t, succ t) :: (b, ts) :: st) (marked.set t.toNat true) out := by rw [dfs, dif_pos h]
theorem dfs_skip {succ : Int → List Int} {b t : Int} {ts : List Int} {st : List (Int × List Int)} {marked : List Bool} {out : List Int} (h : ¬ marked[t.toNat]? = some false) : dfs succ ((b, t :: ts) :: st) marked out = dfs succ ((b, ts) :: st) marked out := by rw [dfs, dif_neg h]
/-- graph.Order -/
def orderF (bs : List (List Ins)) : List Int := if bs.length = 0 then [] else (dfs (succsF bs) [(0, succsF bs 0)] ((List.replicate bs.length false).set 0 true) []).reverse
/-- how many steps are to come at most -/
def mu (n : Nat) (st : List (Int × List Int)) (marked : List Bool) : Nat := (n + 2) * marked.count false + restSum st
theorem mu_pop (n : Nat) (b : Int) (st : List (Int × List Int)) (marked : List Bool) : mu n st marked < mu n ((b, []) :: st) marked := by simp [mu, restSum]
theorem mu_skip (n : Nat) (b t : Int) (ts : List Int) (st : List (Int × List Int)) (marked : List Bool) : mu n ((b, ts) :: st) marked < mu n ((b, t :: ts) :: st) marked := by simp [mu, restSum]
theorem mu_push {n : Nat} {b t : Int} {ts l : List Int} {st : List (Int × List Int)} {marked : List Bool} (h : marked[t.toNat]? = some false) (hl : l.length ≤ n) : mu n ((t, l) :: (b, ts) :: st) (marked.set t.toNat true) < mu n ((b, t :: ts) :: st) marked := by
  have h1 := count_set h
  simp only [mu, restSum, List.map_cons, List.sum_cons, List.length_cons]
  rw [← h1, Nat.mul_add, Nat.mul_one]
  omega
/-- how many there can be on the stack, and put out: what is marked -/
structure DfsOk (n : Nat) (st : List (Int × List Int)) (marked : List Bool) (out : List Int) : Prop where
  len : marked.length = n
  room : st.length + out.length + marked.count false ≤ n
  inn : ∀ p, p ∈ st → (0 ≤ p.1 ∧ p.1 < n) ∧ ∀ t, t ∈ p.2 → 0 ≤ t ∧ t < n
  outs : ∀ t, t ∈ out → 0 ≤ t ∧ t < n
theorem dfsOk_pop {n : Nat} {b : Int} {st : List (Int × List Int)} {marked : List Bool} {out : List Int} (h : DfsOk n ((b, []) :: st) marked out) : DfsOk n st marked (out ++ [b]) :=
  ⟨h.len, by have := h.room; simp at this ⊢; omega, fun p hp => h.inn p (List.mem_cons_of_mem _ hp), fun t ht => by
    rcases List.mem_append.1 ht with ht | ht
    · exact h.outs t ht
    · rw [List.mem_singleton.1 ht]; exact (h.inn _ (List.mem_cons_self ..)).1⟩
theorem dfsOk_skip {n : Nat} {b t : Int} {ts : List Int} {st : List (Int × List Int)} {marked : List Bool} {out : List Int} (h : DfsOk n ((b, t :: ts) :: st) marked out) : DfsOk n ((b, ts) :: st) marked out :=
  ⟨h.len, by have := h.room; simpa using this, fun p hp => by
    rcases List.mem_cons.1 hp with rfl | hp
    · have := h.inn _ (List.mem_cons_self ..)
      exact ⟨this.1, fun t' ht' => this.2 t' (List.mem_cons_of_mem _ ht')⟩
    · exact h.inn p (List.mem_cons_of_mem _ hp), h.outs⟩
theorem dfsOk_push {n : Nat} {b t : Int} {ts l : List Int} {st : List (Int × List Int)} {marked : List Bool} {out : List Int} (h : DfsOk n ((b, t :: ts) :: st) marked out) (hm : marked[t.toNat]? = some false) (hl : ∀ t, t ∈ l → 0 ≤ t ∧ t < n) :
    DfsOk n ((t, l) :: (b, ts) :: st) (marked.set t.toNat true) out := by
  have h1 := count_set hm
  have h2 := dfsOk_skip h
  refine ⟨by rw [List.length_set]; exact h.len, by have := h.room; simp at this ⊢; omega, fun p hp => ?_, h.outs⟩
  rcases List.mem_cons.1 hp with rfl | hp
  · exact ⟨(h.inn _ (List.mem_cons_self ..)).2 t (List.mem_cons_self ..), hl⟩
  · exact h2.inn p hp
theorem dfsOk_start {n : Nat} {l : List Int} (hn : 0 < n) (hl : ∀ t, t ∈ l → 0 ≤ t ∧ t < n) : DfsOk n [(0, l)] ((List.replicate n false).set 0 true) [] := by
  have h1 := count_set (l := List.replicate n false) (k := 0) (by simp [hn])
  refine ⟨by simp, by simp at h1 ⊢; omega, fun p hp => ?_, fun t ht => by cases ht⟩
  rw [List.mem_singleton.1 hp]
  exact ⟨⟨by omega, by simp; omega⟩, hl⟩
end Go.Proofs.Ytkhlnopbgngjbaa
