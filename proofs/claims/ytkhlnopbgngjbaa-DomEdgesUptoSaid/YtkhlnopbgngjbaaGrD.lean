/- Which blocks follow which: plain lists; no program is in sight. No condition. -/
import Derived.Test.YtkhlnopbgngjbaaIrData
namespace Go.Proofs.Ytkhlnopbgngjbaa

/-- one target more: within the function, and each once -/
def keepS (n : Nat) (acc : List Int) (t : Int) : List Int := if 0 ≤ t ∧ t < n ∧ t ∉ acc then acc ++ [t] else acc
def succsL (n : Nat) (to : List Int) : List Int := to.foldl (keepS n) []
/-- of a block's instructions -/
def succsB (n : Nat) (x : List Ins) : List Int := match x.getLast? with
  | none => []
  | some i => if i.op = 31 ∨ i.op = 32 then succsL n i.to else []
/-- graph.Succs -/
def succsF (bs : List (List Ins)) (b : Int) : List Int := if 0 ≤ b then (match bs[b.toNat]? with | none => [] | some x => succsB bs.length x) else []

theorem succsL_take {n : Nat} {to : List Int} {k : Nat} {t : Int} (h : to[k]? = some t) : succsL n (to.take (k + 1)) = keepS n (succsL n (to.take k)) t := by
  rw [take_snoc h]
  unfold succsL
  rw [List.foldl_append]
  rfl
theorem keepS_no {n : Nat} {acc : List Int} {t : Int} (h : ¬ (0 ≤ t ∧ t < n ∧ t ∉ acc)) : keepS n acc t = acc := if_neg h
theorem keepS_yes {n : Nat} {acc : List Int} {t : Int} (h : 0 ≤ t ∧ t < n ∧ t ∉ acc) : keepS n acc t = acc ++ [t] := if_pos h

structure SuccOk (n : Nat) (l : List Int) : Prop where
  nodup : l.Nodup
  bound : ∀ t, t ∈ l → 0 ≤ t ∧ t < n
theorem succ_keep {n : Nat} {acc : List Int} {t : Int} (h : SuccOk n acc) : SuccOk n (keepS n acc t) := by
  unfold keepS
  split
  · rename_i hc
    refine ⟨?_, fun x hx => ?_⟩
    · rw [List.nodup_append]
      exact ⟨h.nodup, by simp, fun a ha b hb => by rw [List.mem_singleton.1 hb]; rintro rfl; exact hc.2.2 ha⟩
    · rcases List.mem_append.1 hx with hx | hx
      · exact h.bound x hx
      · rw [List.mem_singleton.1 hx]; exact ⟨hc.1, hc.2.1⟩
  · exact h
theorem succ_fold {n : Nat} : ∀ (to acc : List Int), SuccOk n acc → SuccOk n (to.foldl (keepS n) acc)
  | [], _, h => h
  | _ :: to, _, h => succ_fold to _ (succ_keep h)
theorem succsL_ok (n : Nat) (to : List Int) : SuccOk n (succsL n to) := succ_fold to [] ⟨List.nodup_nil, fun t h => by cases h⟩
theorem succsF_ok (bs : List (List Ins)) (b : Int) : SuccOk bs.length (succsF bs b) := by
  have h0 : SuccOk bs.length [] := ⟨List.nodup_nil, fun t h => by cases h⟩
  unfold succsF
  split
  · split
    · exact h0
    · unfold succsB
      split
      · exact h0
      · split
        · exact succsL_ok _ _
        · exact h0
  · exact h0
/-- numbers below n, each once: n at most -/
theorem range_len : ∀ (n : Nat) (l : List Int), l.Nodup → (∀ t, t ∈ l → 0 ≤ t ∧ t < n) → l.length ≤ n
  | 0, l, _, h => by
    cases l with
    | nil => exact Nat.le_refl _
    | cons x l => have := h x (List.mem_cons_self ..); omega
  | n + 1, l, hn, h => by
    have h1 := range_len n (l.erase (n : Int)) (hn.erase _) (fun t ht => by
      have h2 := (hn.mem_erase_iff).1 ht
      have h3 := h t h2.2
      have h4 := h2.1
      omega)
    have h5 : l.length ≤ (l.erase (n : Int)).length + 1 := by
      rw [List.length_erase]
      split <;> omega
    omega
theorem succ_len {n : Nat} {l : List Int} (h : SuccOk n l) : l.length ≤ n := range_len n l h.nodup h.bound
theorem fold_len {n : Nat} : ∀ (to acc : List Int), (to.foldl (keepS n) acc).length ≤ acc.length + to.length
  | [], _ => Nat.le_refl _
  | t :: to, acc => by
    have h1 := fold_len to (keepS n acc t) (n := n)
    have h2 : (keepS n acc t).length ≤ acc.length + 1 := by unfold keepS; split <;> simp
    rw [List.foldl_cons, List.length_cons]
    omega
theorem succsL_len (n : Nat) (to : List Int) : (succsL n to).length ≤ to.length := by exact Nat.le_trans (fold_len (n := n) to []) (by simp)
theorem succsL_take_len (n : Nat) (to : List Int) (k : Nat) : (succsL n (to.take k)).length ≤ to.length := Nat.le_trans (succsL_len _ _) (List.length_take_le' _ _)
theorem last_at {α : Type} {x : List α} (h : 0 < x.length) : ∃ i, x.getLast? = some i ∧ x[x.length - 1]? = some i := by
  rw [List.getLast?_eq_getElem?]
  exact ⟨_, List.getElem?_eq_getElem (by omega), List.getElem?_eq_getElem (by omega)⟩
end Go.Proofs.Ytkhlnopbgngjbaa
