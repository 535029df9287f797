/- Texts of the chain, without what is not wanted: Hst. No condition but sizes. -/
import Derived.WalkKit
import Derived.Deep.Slices
import Derived.Deep.Draws
import Derived.ChangeSame
import Derived.ChangeOld
import Derived.OwnWalk
import Derived.Laws.OwnMore
import Derived.Deep.AppendLies
import Derived.Deep.RegionHeld3
import Derived.Test.YtamjcafjdioidaaUm01
namespace Go.Proofs.Ytamjcafjdioidaa
section
variable {P : Program} {ops : Array Oper} {Q : Exit → Act → World → Prop} {md : Region.Mode} {S : World → Prop} {T : Nat → Bool}
def wpAnyU (P : Program) (md : Region.Mode) (ops : Array Oper) (Q : Exit → Act → World → Prop) (S : World → Prop) (T : Nat → Bool) : Nat → Array Bool → Act → World → Prop
 | 0, listed, a, w => Region.ready md ops listed = [] ∧ Q .normal a w
 | fuel + 1, listed, a, w =>
  (Region.ready md ops listed = [] → Q .normal a w) ∧
  ∀ i ∈ Region.ready md ops listed, wpOp P ops Q i (fun a' w' => (T i = true → S w') ∧ wpAnyU P md ops Q S T fuel (listed.setIfInBounds i true) a' w') a w
theorem wpAny_of_U : ∀ (fuel : Nat) (listed : Array Bool) (a : Act) (w : World), wpAnyU P md ops Q S T fuel listed a w → wpAny P md ops Q fuel listed a w
 | 0, _, _, _, h => h
 | fuel + 1, _, _, _, h => ⟨h.1, fun i hi => wpOp_mono (fun a' w' h' => wpAny_of_U fuel _ a' w' h'.2) (h.2 i hi)⟩
def Closed (md : Region.Mode) (ops : Array Oper) (listed : Array Bool) : Prop := ∀ (k : Nat) ok, ops[k]? = some ok → listed.getD k false = true → ∀ e ∈ ok.after, Region.binds md e = true → listed.getD e.on false = true
theorem Closed.next {listed : Array Bool} {j : Nat} (h : Closed md ops listed) (hj : j ∈ Region.ready md ops listed) : Closed md ops (listed.setIfInBounds j true) := fun k ok hk hl e he hb => by
 by_cases e2 : j = k
 ·subst e2
  obtain ⟨-, oj, hoj, hall⟩ := mem_ready.1 hj
  rw [hk] at hoj
  cases hoj
  exact getD_set_true (hall e he hb)
 ·rw [getD_set_ne false e2] at hl
  exact getD_set_true (h k ok hk hl e he hb)
def tabB (md : Region.Mode) (ops : Array Oper) (i : Nat) : Nat → List Bool
 | 0 => []
 | j + 1 => let t := tabB md ops i j
  t ++ [match ops[j]? with | some oj => oj.after.any (fun e => Region.binds md e && (e.on == i || t.getD e.on false)) | none => false]
theorem tab_len (i : Nat) : ∀ j, (tabB md ops i j).length = j
 | 0 => rfl
 | j + 1 => by
  show (tabB md ops i j ++ [_]).length = _
  rw [List.length_append, tab_len i j]; rfl
theorem tab_wait {listed : Array Bool} {i : Nat} (hc : Closed md ops listed) : ∀ (n j : Nat), (tabB md ops i n).getD j false = true → listed.getD j false = true → listed.getD i false = true
 | 0, j, h, _ => by simp [tabB] at h
 | n + 1, j, h, hl => by
  change (tabB md ops i n ++ [_]).getD j false = true at h
  rw [List.getD_eq_getElem?_getD] at h
  rcases Nat.lt_or_ge j n with h1 | h1
  ·rw [List.getElem?_append_left (by rw [tab_len]; exact h1), ← List.getD_eq_getElem?_getD] at h
   exact tab_wait hc n j h hl
  ·rw [List.getElem?_append_right (by rw [tab_len]; exact h1), tab_len] at h
   rcases Nat.eq_or_lt_of_le h1 with h2 | h2
   ·subst h2
    rw [Nat.sub_self, List.getElem?_cons_zero, Option.getD_some] at h
    cases ho : ops[n]? with
    | none => rw [ho] at h; cases h
    | some oj =>
     rw [ho] at h
     obtain ⟨e, he, hb⟩ := Array.any_eq_true'.1 h
     rw [Bool.and_eq_true, Bool.or_eq_true] at hb
     have h3 := hc n oj ho hl e he hb.1
     rcases hb.2 with h4 | h4
     ·rw [beq_iff_eq] at h4
      rw [← h4]; exact h3
     ·exact tab_wait hc n e.on h4 h3
   ·obtain ⟨m, hm⟩ : ∃ m, j - n = m + 1 := ⟨j - n - 1, by omega⟩
    rw [hm] at h
    simp at h
theorem tab_ready {listed : Array Bool} {i j n : Nat} (hc : Closed md ops listed) (hj : j ∈ Region.ready md ops listed) (h : (tabB md ops i n).getD j false = true) (hne : i ≠ j) : listed.getD i false = true := by
 have h1 := tab_wait (hc.next hj) n j h (by
  obtain ⟨h2, -⟩ := mem_ready.1 hj
  rcases Nat.lt_or_ge j listed.size with h' | h'
  ·simp [h']
  ·simp [Array.getElem?_eq_none h'] at h2)
 rwa [getD_set_ne false (Ne.symm hne)] at h1
theorem wpAnyU_first {i : Nat} {oi : Oper} {v : Value} (hi : ops[i]? = some oi) (hsel : ∀ (j : Nat) (o : Oper) cs b, ops[j]? = some o → o.op ≠ .select cs b)
  (hQ : ∀ c a w, Q (.panic c) (a.put oi.dst v) w → Q (.panic c) a w) :
  ∀ (fuel : Nat) (listed : Array Bool) (a : Act) (w : World), Closed md ops listed → (∀ j, listed.getD j true = false → j ≠ i → T j = true ∨ ∃ n, (tabB md ops i n).getD j false = true) →
   (∀ j oj, ops[j]? = some oj → j ≠ i → listed.getD j true = false → (∀ e ∈ oj.after, Region.binds md e = true → e.on ≠ i) → oi.apart ops oj = true) →
   i ∈ Region.ready md ops listed → YieldsIf P ops S oi v a → S w →
   wpAnyU P md ops Q S T fuel (listed.setIfInBounds i true) (a.put oi.dst v) w → wpAnyU P md ops Q S T (fuel + 1) listed a w := by
 intro fuel
 induction fuel with
 | zero =>
  intro listed a w hc hT _ hr hy hS H
  refine ⟨fun h => (by rw [h] at hr; cases hr), fun j hj => ?_⟩
  by_cases hji : j = i
  ·subst hji; exact hy.wpOp hi hS ⟨fun _ => hS, H⟩
  ·have := ready_mono hj hji
   rw [H.1] at this
   cases this
 | succ fuel ih =>
  intro listed a w hc hT hfree hr hy hS H
  refine ⟨fun h => (by rw [h] at hr; cases hr), fun j hj => ?_⟩
  by_cases hji : j = i
  ·subst hji; exact hy.wpOp hi hS ⟨fun _ => hS, H⟩
  ·have h1 := H.2 j (ready_mono hj hji)
   obtain ⟨hjun, oj, hoj, hall⟩ := mem_ready.1 hj
   have hiun : ¬ listed.getD i false = true := fun h1 => by
    have h0 := (mem_ready.1 hr).1
    rcases Nat.lt_or_ge i listed.size with h' | h'
    ·simp [h'] at h0 h1; rw [h0] at h1; cases h1
    ·simp [Array.getElem?_eq_none h'] at h1
   have hnot : ∀ e ∈ oj.after, Region.binds md e = true → e.on ≠ i := fun e he hb heq => hiun (by rw [← heq]; exact hall e he hb)
   have hTj : T j = true := by
    rcases hT j hjun hji with h2 | ⟨n, h2⟩
    ·exact h2
    ·exact absurd (tab_ready hc hj h2 (Ne.symm hji)) hiun
   have h2 := wpOp_putIf hoj (hfree j oj hoj hji hjun hnot) (fun cs b => hsel i oi cs b hi) (fun cs b => hsel j oj cs b hoj) hQ hy h1
   have hun2 : ∀ k, (listed.setIfInBounds j true).getD k true = false → listed.getD k true = false := fun k hun => by
    by_cases hjk : j = k
    ·subst hjk; exact hjun
    ·rw [getD_set_ne true hjk] at hun; exact hun
   refine wpOp_mono (fun a' w' h3 => ⟨h3.2.1, ih (listed.setIfInBounds j true) a' w' (hc.next hj) (fun k hk hki => hT k (hun2 k hk) hki) (fun k ok hk hki hun hno => hfree k ok hk hki (hun2 k hun) hno) (ready_mono hr (Ne.symm hji)) h3.1 (h3.2.1 hTj) ?_⟩) h2
   rw [Array.setIfInBounds_comm _ _ hji]
   exact h3.2.2
theorem wpAnyU_firstY {i : Nat} {oi : Oper} {v : Value} (hi : ops[i]? = some oi) (hsel : ∀ (j : Nat) (o : Oper) cs b, ops[j]? = some o → o.op ≠ .select cs b)
  (hQ : ∀ c a w, Q (.panic c) (a.put oi.dst v) w → Q (.panic c) a w) (hTi : T i = false) :
  ∀ (fuel : Nat) (listed : Array Bool) (a : Act) (w : World),
   (∀ j oj, ops[j]? = some oj → j ≠ i → listed.getD j true = false → (∀ e ∈ oj.after, Region.binds md e = true → e.on ≠ i) → oi.apart ops oj = true) →
   i ∈ Region.ready md ops listed → YieldsIf P ops (fun _ => True) oi v a →
   wpAnyU P md ops Q S T fuel (listed.setIfInBounds i true) (a.put oi.dst v) w → wpAnyU P md ops Q S T (fuel + 1) listed a w := by
 intro fuel
 induction fuel with
 | zero =>
  intro listed a w _ hr hy H
  refine ⟨fun h => (by rw [h] at hr; cases hr), fun j hj => ?_⟩
  by_cases hji : j = i
  ·subst hji; exact hy.wpOp hi trivial ⟨fun h => (by rw [hTi] at h; cases h), H⟩
  ·have := ready_mono hj hji
   rw [H.1] at this
   cases this
 | succ fuel ih =>
  intro listed a w hfree hr hy H
  refine ⟨fun h => (by rw [h] at hr; cases hr), fun j hj => ?_⟩
  by_cases hji : j = i
  ·subst hji; exact hy.wpOp hi trivial ⟨fun h => (by rw [hTi] at h; cases h), H⟩
  ·have h1 := H.2 j (ready_mono hj hji)
   obtain ⟨hjun, oj, hoj, hall⟩ := mem_ready.1 hj
   have hnot : ∀ e ∈ oj.after, Region.binds md e = true → e.on ≠ i := fun e he hb heq => by
    have h1 := hall e he hb
    have h0 := (mem_ready.1 hr).1
    rw [heq] at h1
    rcases Nat.lt_or_ge i listed.size with h' | h'
    ·simp [h'] at h0 h1; rw [h0] at h1; cases h1
    ·simp [Array.getElem?_eq_none h'] at h1
   have h2 := wpOp_putIf hoj (hfree j oj hoj hji hjun hnot) (fun cs b => hsel i oi cs b hi) (fun cs b => hsel j oj cs b hoj) hQ hy h1
   have hun2 : ∀ k, (listed.setIfInBounds j true).getD k true = false → listed.getD k true = false := fun k hun => by
    by_cases hjk : j = k
    ·subst hjk; exact hjun
    ·rw [getD_set_ne true hjk] at hun; exact hun
   refine wpOp_mono (fun a' w' h3 => ⟨h3.2.1, ih (listed.setIfInBounds j true) a' w' (fun k ok hk hki hun hno => hfree k ok hk hki (hun2 k hun) hno) (ready_mono hr (Ne.symm hji)) h3.1 ?_⟩) h2
   rw [Array.setIfInBounds_comm _ _ hji]
   exact h3.2.2
def waitsB (md : Region.Mode) (ops : Array Oper) (listed : Array Bool) (T : Nat → Bool) (i : Nat) : Bool :=
 let t := tabB md ops i ops.size
 (List.range ops.size).all (fun j => listed.getD j true || T j || j == i || t.getD j false) && (listed.size == ops.size) &&
  (List.range ops.size).all fun k => !listed.getD k false || match ops[k]? with | some ok => ok.after.all (fun e => !Region.binds md e || listed.getD e.on false) | none => true
theorem waits_spec {listed : Array Bool} {i : Nat} (h : waitsB md ops listed T i = true) : Closed md ops listed ∧ ∀ j, listed.getD j true = false → j ≠ i → T j = true ∨ ∃ n, (tabB md ops i n).getD j false = true := by
 unfold waitsB at h
 simp only [Bool.and_eq_true, List.all_eq_true, List.mem_range, beq_iff_eq] at h
 obtain ⟨⟨h1, h2⟩, h3⟩ := h
 refine ⟨fun k ok hk hl e he hb => ?_, fun j hj hne => ?_⟩
 ·have h4 := h3 k (Array.getElem?_eq_some_iff.1 hk).1
  rw [hl, hk] at h4
  simp only [Bool.not_true, Bool.false_or] at h4
  have h5 := Array.all_eq_true'.1 h4 e he
  rw [hb] at h5
  simpa using h5
 ·have hjs : j < ops.size := by
   rw [← h2]
   rcases Nat.lt_or_ge j listed.size with h' | h'
   ·exact h'
   ·simp [Array.getElem?_eq_none h'] at hj
  have h4 := h1 j hjs
  rw [hj] at h4
  simp only [Bool.false_or, Bool.or_eq_true, beq_iff_eq] at h4
  rcases h4 with (h4 | h4) | h4
  ·exact .inl h4
  ·exact absurd h4 hne
  ·exact .inr ⟨_, h4⟩
theorem wpAnyU_take {i : Nat} {oi : Oper} {v : Value} {fuel : Nat} {listed : Array Bool} {a : Act} {w : World} (hi : ops[i]? = some oi)
  (hs : Region.noSelect ops = true) (hf : Region.free md ops listed i = true) (hr : (Region.ready md ops listed).contains i = true) (hT : waitsB md ops listed T i = true)
  (hQ : ∀ c a w, Q (.panic c) (a.put oi.dst v) w → Q (.panic c) a w) (hy : YieldsIf P ops S oi v a) (hS : S w)
  (h : wpAnyU P md ops Q S T fuel (listed.setIfInBounds i true) (a.put oi.dst v) w) : wpAnyU P md ops Q S T (fuel + 1) listed a w :=
 wpAnyU_first hi (Region.noSelect_spec hs) hQ fuel listed a w (waits_spec hT).1 (waits_spec hT).2 (Region.free_spec hi hf) (by simpa using hr) hy hS h
theorem wpAnyU_takeY {i : Nat} {oi : Oper} {v : Value} {fuel : Nat} {listed : Array Bool} {a : Act} {w : World} (hi : ops[i]? = some oi)
  (hs : Region.noSelect ops = true) (hf : Region.free md ops listed i = true) (hr : (Region.ready md ops listed).contains i = true) (hT : T i = false)
  (hQ : ∀ c a w, Q (.panic c) (a.put oi.dst v) w → Q (.panic c) a w) (hy : YieldsIf P ops (fun _ => True) oi v a)
  (h : wpAnyU P md ops Q S T fuel (listed.setIfInBounds i true) (a.put oi.dst v) w) : wpAnyU P md ops Q S T (fuel + 1) listed a w :=
 wpAnyU_firstY hi (Region.noSelect_spec hs) hQ hT fuel listed a w (Region.free_spec hi hf) (by simpa using hr) hy h
def AllReadyU (P : Program) (md : Region.Mode) (ops : Array Oper) (Q : Exit → Act → World → Prop) (S : World → Prop) (T : Nat → Bool) (fuel : Nat) (listed : Array Bool) (a : Act) (w : World) (rs : List Nat) : Prop :=
 ∀ i ∈ rs, wpOp P ops Q i (fun a' w' => (T i = true → S w') ∧ wpAnyU P md ops Q S T fuel (listed.setIfInBounds i true) a' w') a w
theorem AllReadyU.nil {fuel : Nat} {listed : Array Bool} {a : Act} {w : World} : AllReadyU P md ops Q S T fuel listed a w [] := fun _ h => by cases h
theorem AllReadyU.cons {fuel : Nat} {listed : Array Bool} {a : Act} {w : World} {i : Nat} {o : Oper} {rs : List Nat} (ho : ops[i]? = some o)
  (h : ∀ K' : Act → World → Prop, Shut (∀ a w, (T i = true → S w) → wpAnyU P md ops Q S T fuel (listed.setIfInBounds i true) a w → K' a w) → if Region.wanted o (yielded ops a.tmps) = true then Oper.wp P o a w K' Q else K' (a.put o.dst undef) w)
  (hs : AllReadyU P md ops Q S T fuel listed a w rs) : AllReadyU P md ops Q S T fuel listed a w (i :: rs) := fun j hj => by
 rcases List.mem_cons.1 hj with rfl | hj
 ·exact wpOp_step ho (fun K' hK => h K' (fun a w hS hW => hK a w ⟨hS, hW⟩))
 ·exact hs j hj
theorem wpAnyU_ready {rs : List Nat} {fuel : Nat} {listed : Array Bool} {a : Act} {w : World} (hr : Region.ready md ops listed = rs) (hne : rs ≠ [])
  (h : AllReadyU P md ops Q S T fuel listed a w rs) : wpAnyU P md ops Q S T (fuel + 1) listed a w :=
 ⟨fun h0 => absurd (hr ▸ h0) hne, hr ▸ h⟩
theorem wpAnyU_done {listed : Array Bool} {a : Act} {w : World} (hr : Region.ready md ops listed = []) (h : Q .normal a w) :
  ∀ fuel, wpAnyU P md ops Q S T fuel listed a w
 | 0 => ⟨hr, h⟩
 | _ + 1 => ⟨fun _ => h, by rw [hr]; simp⟩
theorem wp_region_U {id : Nat} {a : Act} {w : World} (hm : P.follows .mixedOrders = true)
  (h : wpAnyU P .any ops Q S T ops.size (Array.replicate ops.size false) a w.drew) : (Code.region id ops true).wp P Q a w :=
 wp_region_any hm (wpAny_of_U _ _ _ _ h)
end
end Go.Proofs.Ytamjcafjdioidaa
