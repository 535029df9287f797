/- A region that draws its order: a load may be taken first where a condition on the world is kept by all operations but those that wait for the load (the stores behind it). No condition. | memssa's phis told: the plain side, and two rows of one access that grow in one statement. No condition. -/
import Derived.Deep.RegionHeld3
import Derived.Test.YteeclobpajalmaaRep
import Derived.Test.YteeclobpajalmaaMsH
namespace Go.Proofs.Yteeclobpajalmaa

section
variable {P : Program} {ops : Array Oper} {Q : Exit → Act → World → Prop} {md : Region.Mode} {S : World → Prop} {T : Nat → Bool}
/-- whatever order is picked from here on, and S holds behind every operation i with T i -/
def wpAnyU (P : Program) (md : Region.Mode) (ops : Array Oper) (Q : Exit → Act → World → Prop) (S : World → Prop) (T : Nat → Bool) : Nat → Array Bool → Act → World → Prop
  | 0, listed, a, w => Region.ready md ops listed = [] ∧ Q .normal a w
  | fuel + 1, listed, a, w =>
    (Region.ready md ops listed = [] → Q .normal a w) ∧
    ∀ i ∈ Region.ready md ops listed, wpOp P ops Q i (fun a' w' => (T i = true → S w') ∧ wpAnyU P md ops Q S T fuel (listed.setIfInBounds i true) a' w') a w
theorem wpAny_of_U : ∀ (fuel : Nat) (listed : Array Bool) (a : Act) (w : World), wpAnyU P md ops Q S T fuel listed a w → wpAny P md ops Q fuel listed a w
  | 0, _, _, _, h => h
  | fuel + 1, _, _, _, h => ⟨h.1, fun i hi => wpOp_mono (fun a' w' h' => wpAny_of_U fuel _ a' w' h'.2) (h.2 i hi)⟩
/-- what has come up has come up behind all that it waits for -/
def Closed (md : Region.Mode) (ops : Array Oper) (listed : Array Bool) : Prop := ∀ (k : Nat) ok, ops[k]? = some ok → listed.getD k false = true → ∀ e ∈ ok.after, Region.binds md e = true → listed.getD e.on false = true
theorem Closed.next {listed : Array Bool} {j : Nat} (h : Closed md ops listed) (hj : j ∈ Region.ready md ops listed) : Closed md ops (listed.setIfInBounds j true) := fun k ok hk hl e he hb => by
  by_cases e2 : j = k
  · subst e2
    obtain ⟨-, oj, hoj, hall⟩ := mem_ready.1 hj
    rw [hk] at hoj
    cases hoj
    exact getD_set_true (hall e he hb)
  · rw [getD_set_ne false e2] at hl
    exact getD_set_true (h k ok hk hl e he hb)
/-- which operations wait for i, one way or another -/
def tabB (md : Region.Mode) (ops : Array Oper) (i : Nat) : Nat → List Bool
  | 0 => []
  | j + 1 => let t := tabB md ops i j
    t ++ [match ops[j]? with | some oj => oj.after.any (fun e => Region.binds md e && (e.on == i || t.getD e.on false)) | none => false]
theorem tab_len (i : Nat) : ∀ j, (tabB md ops i j).length = j
  | 0 => rfl
  | j + 1 => by
    show (tabB md ops i j ++ [_]).length = _
    rw [List.length_append, tab_len i j]; rfl
theorem tab_wait {listed : Array Bool} {i : Nat} (hc : Closed md ops listed) : ∀ (n j : Nat), (tabB md ops i n).getD j false = true → listed.getD j false = true → listed.getD i false = true
  | 0, j, h, _ => by simp [tabB] at h
  | n + 1, j, h, hl => by
    change (tabB md ops i n ++ [_]).getD j false = true at h
    rw [List.getD_eq_getElem?_getD] at h
    rcases Nat.lt_or_ge j n with h1 | h1
    · rw [List.getElem?_append_left (by rw [tab_len]; exact h1), ← List.getD_eq_getElem?_getD] at h
      exact tab_wait hc n j h hl
    · rw [List.getElem?_append_right (by rw [tab_len]; exact h1), tab_len] at h
      rcases Nat.eq_or_lt_of_le h1 with h2 | h2
      · subst h2
        rw [Nat.sub_self, List.getElem?_cons_zero, Option.getD_some] at h
        cases ho : ops[n]? with
        | none => rw [ho] at h; cases h
        | some oj =>
          rw [ho] at h
          obtain ⟨e, he, hb⟩ := Array.any_eq_true'.1 h
          rw [Bool.and_eq_true, Bool.or_eq_true] at hb
          have h3 := hc n oj ho hl e he hb.1
          rcases hb.2 with h4 | h4
          · rw [beq_iff_eq] at h4
            rw [← h4]; exact h3
          · exact tab_wait hc n e.on h4 h3
      · obtain ⟨m, hm⟩ : ∃ m, j - n = m + 1 := ⟨j - n - 1, by omega⟩
        rw [hm] at h
        simp at h
/-- an operation that may come up waits for i: so i has come up -/
theorem tab_ready {listed : Array Bool} {i j n : Nat} (hc : Closed md ops listed) (hj : j ∈ Region.ready md ops listed) (h : (tabB md ops i n).getD j false = true) (hne : i ≠ j) : listed.getD i false = true := by
  have h1 := tab_wait (hc.next hj) n j h (by
    obtain ⟨h2, -⟩ := mem_ready.1 hj
    rcases Nat.lt_or_ge j listed.size with h' | h'
    · simp [h']
    · simp [Array.getElem?_eq_none h'] at h2)
  rwa [getD_set_ne false (Ne.symm hne)] at h1
theorem wpAnyU_first {i : Nat} {oi : Oper} {v : Value} (hi : ops[i]? = some oi) (hsel : ∀ (j : Nat) (o : Oper) cs b, ops[j]? = some o → o.op ≠ .select cs b)
    (hQ : ∀ c a w, Q (.panic c) (a.put oi.dst v) w → Q (.panic c) a w) :
    ∀ (fuel : Nat) (listed : Array Bool) (a : Act) (w : World), Closed md ops listed → (∀ j, listed.getD j true = false → j ≠ i → T j = true ∨ ∃ n, (tabB md ops i n).getD j false = true) →
      (∀ j oj, ops[j]? = some oj → j ≠ i → listed.getD j true = false → (∀ e ∈ oj.after, Region.binds md e = true → e.on ≠ i) → oi.apart ops oj = true) →
      i ∈ Region.ready md ops listed → YieldsIf P ops S oi v a → S w →
      wpAnyU P md ops Q S T fuel (listed.setIfInBounds i true) (a.put oi.dst v) w → wpAnyU P md ops Q S T (fuel + 1) listed a w := by
  intro fuel
  induction fuel with
  | zero =>
    intro listed a w hc hT _ hr hy hS H
    refine ⟨fun h => (by rw [h] at hr; cases hr), fun j hj => ?_⟩
    by_cases hji : j = i
    · subst hji; exact hy.wpOp hi hS ⟨fun _ => hS, H⟩
    · have := ready_mono hj hji
      rw [H.1] at this
      cases this
  | succ fuel ih =>
    intro listed a w hc hT hfree hr hy hS H
    refine ⟨fun h => (by rw [h] at hr; cases hr), fun j hj => ?_⟩
    by_cases hji : j = i
    · subst hji; exact hy.wpOp hi hS ⟨fun _ => hS, H⟩
    · have h1 := H.2 j (ready_mono hj hji)
      obtain ⟨hjun, oj, hoj, hall⟩ := mem_ready.1 hj
      have hiun : ¬ listed.getD i false = true := fun h1 => by
        have h0 := (mem_ready.1 hr).1
        rcases Nat.lt_or_ge i listed.size with h' | h'
        · simp [h'] at h0 h1; rw [h0] at h1; cases h1
        · simp [Array.getElem?_eq_none h'] at h1
      have hnot : ∀ e ∈ oj.after, Region.binds md e = true → e.on ≠ i := fun e he hb heq => hiun (by rw [← heq]; exact hall e he hb)
      have hTj : T j = true := by
        rcases hT j hjun hji with h2 | ⟨n, h2⟩
        · exact h2
        · exact absurd (tab_ready hc hj h2 (Ne.symm hji)) hiun
      have h2 := wpOp_putIf hoj (hfree j oj hoj hji hjun hnot) (fun cs b => hsel i oi cs b hi) (fun cs b => hsel j oj cs b hoj) hQ hy h1
      have hun2 : ∀ k, (listed.setIfInBounds j true).getD k true = false → listed.getD k true = false := fun k hun => by
        by_cases hjk : j = k
        · subst hjk; exact hjun
        · rw [getD_set_ne true hjk] at hun; exact hun
      refine wpOp_mono (fun a' w' h3 => ⟨h3.2.1, ih (listed.setIfInBounds j true) a' w' (hc.next hj) (fun k hk hki => hT k (hun2 k hk) hki) (fun k ok hk hki hun hno => hfree k ok hk hki (hun2 k hun) hno) (ready_mono hr (Ne.symm hji)) h3.1 (h3.2.1 hTj) ?_⟩) h2
      rw [Array.setIfInBounds_comm _ _ hji]
      exact h3.2.2
theorem wpAnyU_firstY {i : Nat} {oi : Oper} {v : Value} (hi : ops[i]? = some oi) (hsel : ∀ (j : Nat) (o : Oper) cs b, ops[j]? = some o → o.op ≠ .select cs b)
    (hQ : ∀ c a w, Q (.panic c) (a.put oi.dst v) w → Q (.panic c) a w) (hTi : T i = false) :
    ∀ (fuel : Nat) (listed : Array Bool) (a : Act) (w : World),
      (∀ j oj, ops[j]? = some oj → j ≠ i → listed.getD j true = false → (∀ e ∈ oj.after, Region.binds md e = true → e.on ≠ i) → oi.apart ops oj = true) →
      i ∈ Region.ready md ops listed → YieldsIf P ops (fun _ => True) oi v a →
      wpAnyU P md ops Q S T fuel (listed.setIfInBounds i true) (a.put oi.dst v) w → wpAnyU P md ops Q S T (fuel + 1) listed a w := by
  intro fuel
  induction fuel with
  | zero =>
    intro listed a w _ hr hy H
    refine ⟨fun h => (by rw [h] at hr; cases hr), fun j hj => ?_⟩
    by_cases hji : j = i
    · subst hji; exact hy.wpOp hi trivial ⟨fun h => (by rw [hTi] at h; cases h), H⟩
    · have := ready_mono hj hji
      rw [H.1] at this
      cases this
  | succ fuel ih =>
    intro listed a w hfree hr hy H
    refine ⟨fun h => (by rw [h] at hr; cases hr), fun j hj => ?_⟩
    by_cases hji : j = i
    · subst hji; exact hy.wpOp hi trivial ⟨fun h => (by rw [hTi] at h; cases h), H⟩
    · have h1 := H.2 j (ready_mono hj hji)
      obtain ⟨hjun, oj, hoj, hall⟩ := mem_ready.1 hj
      have hnot : ∀ e ∈ oj.after, Region.binds md e = true → e.on ≠ i := fun e he hb heq => by
        have h1 := hall e he hb
        have h0 := (mem_ready.1 hr).1
        rw [heq] at h1
        rcases Nat.lt_or_ge i listed.size with h' | h'
        · simp [h'] at h0 h1; rw [h0] at h1; cases h1
        · simp [Array.getElem?_eq_none h'] at h1
      have h2 := wpOp_putIf hoj (hfree j oj hoj hji hjun hnot) (fun cs b => hsel i oi cs b hi) (fun cs b => hsel j oj cs b hoj) hQ hy h1
      have hun2 : ∀ k, (listed.setIfInBounds j true).getD k true = false → listed.getD k true = false := fun k hun => by
        by_cases hjk : j = k
        · subst hjk; exact hjun
        · rw [getD_set_ne true hjk] at hun; exact hun
      refine wpOp_mono (fun a' w' h3 => ⟨h3.2.1, ih (listed.setIfInBounds j true) a' w' (fun k ok hk hki hun hno => hfree k ok hk hki (hun2 k hun) hno) (ready_mono hr (Ne.symm hji)) h3.1 ?_⟩) h2
      rw [Array.setIfInBounds_comm _ _ hji]
      exact h3.2.2
/-- the operations that have not come up keep S, or wait for i; what has come up is closed -/
def waitsB (md : Region.Mode) (ops : Array Oper) (listed : Array Bool) (T : Nat → Bool) (i : Nat) : Bool :=
  let t := tabB md ops i ops.size
  (List.range ops.size).all (fun j => listed.getD j true || T j || j == i || t.getD j false) && (listed.size == ops.size) &&
    (List.range ops.size).all fun k => !listed.getD k false || match ops[k]? with | some ok => ok.after.all (fun e => !Region.binds md e || listed.getD e.on false) | none => true
theorem waits_spec {listed : Array Bool} {i : Nat} (h : waitsB md ops listed T i = true) : Closed md ops listed ∧ ∀ j, listed.getD j true = false → j ≠ i → T j = true ∨ ∃ n, (tabB md ops i n).getD j false = true := by
  unfold waitsB at h
  simp only [Bool.and_eq_true, List.all_eq_true, List.mem_range, beq_iff_eq] at h
  obtain ⟨⟨h1, h2⟩, h3⟩ := h
  refine ⟨fun k ok hk hl e he hb => ?_, fun j hj hne => ?_⟩
  · have h4 := h3 k (Array.getElem?_eq_some_iff.1 hk).1
    rw [hl, hk] at h4
    simp only [Bool.not_true, Bool.false_or] at h4
    have h5 := Array.all_eq_true'.1 h4 e he
    rw [hb] at h5
    simpa using h5
  · have hjs : j < ops.size := by
      rw [← h2]
      rcases Nat.lt_or_ge j listed.size with h' | h'
      · exact h'
      · simp [Array.getElem?_eq_none h'] at hj
    have h4 := h1 j hjs
    rw [hj] at h4
    simp only [Bool.false_or, Bool.or_eq_true, beq_iff_eq] at h4
    rcases h4 with (h4 | h4) | h4
    · exact .inl h4
    · exact absurd h4 hne
    · exact .inr ⟨_, h4⟩
theorem wpAnyU_take {i : Nat} {oi : Oper} {v : Value} {fuel : Nat} {listed : Array Bool} {a : Act} {w : World} (hi : ops[i]? = some oi)
    (hs : Region.noSelect ops = true) (hf : Region.free md ops listed i = true) (hr : (Region.ready md ops listed).contains i = true) (hT : waitsB md ops listed T i = true)
    (hQ : ∀ c a w, Q (.panic c) (a.put oi.dst v) w → Q (.panic c) a w) (hy : YieldsIf P ops S oi v a) (hS : S w)
    (h : wpAnyU P md ops Q S T fuel (listed.setIfInBounds i true) (a.put oi.dst v) w) : wpAnyU P md ops Q S T (fuel + 1) listed a w :=
  wpAnyU_first hi (Region.noSelect_spec hs) hQ fuel listed a w (waits_spec hT).1 (waits_spec hT).2 (Region.free_spec hi hf) (by simpa using hr) hy hS h
theorem wpAnyU_takeY {i : Nat} {oi : Oper} {v : Value} {fuel : Nat} {listed : Array Bool} {a : Act} {w : World} (hi : ops[i]? = some oi)
    (hs : Region.noSelect ops = true) (hf : Region.free md ops listed i = true) (hr : (Region.ready md ops listed).contains i = true) (hT : T i = false)
    (hQ : ∀ c a w, Q (.panic c) (a.put oi.dst v) w → Q (.panic c) a w) (hy : YieldsIf P ops (fun _ => True) oi v a)
    (h : wpAnyU P md ops Q S T fuel (listed.setIfInBounds i true) (a.put oi.dst v) w) : wpAnyU P md ops Q S T (fuel + 1) listed a w :=
  wpAnyU_firstY hi (Region.noSelect_spec hs) hQ hT fuel listed a w (Region.free_spec hi hf) (by simpa using hr) hy h
def AllReadyU (P : Program) (md : Region.Mode) (ops : Array Oper) (Q : Exit → Act → World → Prop) (S : World → Prop) (T : Nat → Bool) (fuel : Nat) (listed : Array Bool) (a : Act) (w : World) (rs : List Nat) : Prop :=
  ∀ i ∈ rs, wpOp P ops Q i (fun a' w' => (T i = true → S w') ∧ wpAnyU P md ops Q S T fuel (listed.setIfInBounds i true) a' w') a w
theorem AllReadyU.nil {fuel : Nat} {listed : Array Bool} {a : Act} {w : World} : AllReadyU P md ops Q S T fuel listed a w [] := fun _ h => by cases h
theorem AllReadyU.cons {fuel : Nat} {listed : Array Bool} {a : Act} {w : World} {i : Nat} {o : Oper} {rs : List Nat} (ho : ops[i]? = some o)
    (h : ∀ K' : Act → World → Prop, Shut (∀ a w, (T i = true → S w) → wpAnyU P md ops Q S T fuel (listed.setIfInBounds i true) a w → K' a w) → if Region.wanted o (yielded ops a.tmps) = true then Oper.wp P o a w K' Q else K' (a.put o.dst undef) w)
    (hs : AllReadyU P md ops Q S T fuel listed a w rs) : AllReadyU P md ops Q S T fuel listed a w (i :: rs) := fun j hj => by
  rcases List.mem_cons.1 hj with rfl | hj
  · exact wpOp_step ho (fun K' hK => h K' (fun a w hS hW => hK a w ⟨hS, hW⟩))
  · exact hs j hj
theorem wpAnyU_ready {rs : List Nat} {fuel : Nat} {listed : Array Bool} {a : Act} {w : World} (hr : Region.ready md ops listed = rs) (hne : rs ≠ [])
    (h : AllReadyU P md ops Q S T fuel listed a w rs) : wpAnyU P md ops Q S T (fuel + 1) listed a w :=
  ⟨fun h0 => absurd (hr ▸ h0) hne, hr ▸ h⟩
theorem wpAnyU_done {listed : Array Bool} {a : Act} {w : World} (hr : Region.ready md ops listed = []) (h : Q .normal a w) :
    ∀ fuel, wpAnyU P md ops Q S T fuel listed a w
  | 0 => ⟨hr, h⟩
  | _ + 1 => ⟨fun _ => h, by rw [hr]; simp⟩
theorem wp_region_U {id : Nat} {a : Act} {w : World} (hm : P.follows .mixedOrders = true)
    (h : wpAnyU P .any ops Q S T ops.size (Array.replicate ops.size false) a w.drew) : (Code.region id ops true).wp P Q a w :=
  wp_region_any hm (wpAny_of_U _ _ _ _ h)
end
end Go.Proofs.Yteeclobpajalmaa

namespace Go.Proofs.Yteeclobpajalmaa
open Go.RowKit
set_option linter.unusedSimpArgs false
set_option linter.unusedVariables false

/-- the reachable ones of the first i of a row -/
def fromP (o p : List Int) (i : Nat) : List Int := (p.take i).filter fun x => decide (x ∈ o)
theorem fromP_step {o p : List Int} {i : Nat} {x : Int} (hx : p[i]? = some x) : fromP o p (i + 1) = fromP o p i ++ (if x ∈ o then [x] else []) := by
  unfold fromP
  rw [List.take_add_one, hx, List.filter_append]
  by_cases e : x ∈ o
  · simp [e]
  · simp [e]
theorem fromP_len {o p : List Int} {i : Nat} : (fromP o p i).length ≤ p.length := by
  unfold fromP
  exact Nat.le_trans (List.length_filter_le ..) (by rw [List.length_take]; omega)
theorem fromP_end {o p : List Int} {P : List (List Int)} {b : Nat} (hp : P[b]? = some p) : fromP o p p.length = fromL P o b := by
  unfold fromP fromL
  rw [List.take_length, Int.toNat_natCast, List.getD_eq_getElem?_getD, hp]; rfl
/-- the accesses while the phis of the blocks below k are told -/
structure PhK (bs : List (List Ins)) (H : Nat → Bool) (o l : List Int) (P : List (List Int)) (n k : Nat) (ls : List Ac) : Prop where
  len : ls.length = (laidA bs H o n).length
  at_ : ∀ (j : Nat) a, (laidA bs H o n)[j]? = some a → ls[j]? = some (if a.kind = 1 ∨ a.kind = 2 ∨ a.kind = 3 ∧ a.block < k then accD (laidA bs H o n) l o P j a else a)
section
variable {bs : List (List Ins)} {H : Nat → Bool} {o l : List Int} {P : List (List Int)} {n k : Nat} {ls : List Ac}
theorem phk_start : PhK bs H o l P n 0 (stoodA (laidA bs H o n) l o P) := ⟨stood_len, fun j a ha => by
  rw [stood_at ha]
  congr 1
  by_cases h : a.kind = 1 ∨ a.kind = 2
  · rw [if_pos h, if_pos (h.imp id .inl)]
  · rw [if_neg h, if_neg]
    rintro (h1 | h1 | ⟨h1, h2⟩)
    · exact h (.inl h1)
    · exact h (.inr h1)
    · have h0 : 0 < j := Nat.pos_of_ne_zero fun e => by
        subst e
        rw [laidA_zero] at ha
        cases ha
        cases h1
      obtain ⟨c, h3, -⟩ := seg_of ha h0
      omega⟩
theorem phk_none (h : PhK bs H o l P n k ls) (hk : ¬ ((k : Int) ∈ o ∧ H k = true)) : PhK bs H o l P n (k + 1) ls := ⟨h.len, fun j a ha => by
  rw [h.at_ j a ha]
  congr 1
  by_cases h1 : a.kind = 3 ∧ a.block = k
  · exfalso
    have h0 : 0 < j := Nat.pos_of_ne_zero fun e => by
      subst e
      rw [laidA_zero] at ha
      cases ha
      cases h1.1
    obtain ⟨c, h3, h4⟩ := laidA_mem n ha h0
    obtain ⟨h5, h6⟩ := blkA_mem h4.1
    rcases h6 with ⟨h6, rfl⟩ | ⟨i, q, -, h7, rfl⟩
    · have e : c = k := by have := h1.2; show c = k; have e2 : (c : Int) = k := this; omega
      subst e
      exact hk ⟨h5, h6⟩
    · rcases h7 with rfl | rfl <;> cases h1.1
  · by_cases h2 : a.kind = 1 ∨ a.kind = 2 ∨ a.kind = 3 ∧ a.block < (k : Int)
    · rw [if_pos h2, if_pos (h2.imp id (Or.imp id fun h => ⟨h.1, by omega⟩))]
    · rw [if_neg h2, if_neg]
      rintro (h3 | h3 | ⟨h3, h4⟩)
      · exact h2 (.inl h3)
      · exact h2 (.inr (.inl h3))
      · exact h2 (.inr (.inr ⟨h3, by have : ¬ a.block = k := fun e => h1 ⟨h3, e⟩; omega⟩))⟩
theorem phk_put (h : PhK bs H o l P n k ls) (hkn : k < n) (hko : (k : Int) ∈ o) (hH : H k = true) {p : List Int} (hp : P[k]? = some p) :
    PhK bs H o l P n (k + 1) (ls.set (offA bs H o k) ⟨3, k, -1, (fromP o p p.length).map fun q => endF (laidA bs H o n) l o q.toNat, fromP o p p.length⟩) := by
  have hphi := seg_phi (bs := bs) hkn hko hH
  have hil := (List.getElem?_eq_some_iff.1 hphi).1
  refine ⟨by rw [List.length_set]; exact h.len, fun j a ha => ?_⟩
  by_cases e : offA bs H o k = j
  · subst e
    rw [hphi] at ha
    cases ha
    rw [List.getElem?_set_self (by rw [h.len]; exact hil), if_pos (.inr (.inr ⟨rfl, by show (k : Int) < (k + 1 : Nat); omega⟩))]
    rw [fromP_end hp]
    rfl
  · rw [List.getElem?_set_ne e, h.at_ j a ha]
    congr 1
    by_cases h2 : a.kind = 1 ∨ a.kind = 2 ∨ a.kind = 3 ∧ a.block < (k : Int)
    · rw [if_pos h2, if_pos (h2.imp id (Or.imp id fun h => ⟨h.1, by omega⟩))]
    · rw [if_neg h2, if_neg]
      rintro (h3 | h3 | ⟨h3, h4⟩)
      · exact h2 (.inl h3)
      · exact h2 (.inr (.inl h3))
      · refine h2 (.inr (.inr ⟨h3, ?_⟩))
        have hne : ¬ a.block = k := fun e3 => by
          have h0 : 0 < j := Nat.pos_of_ne_zero fun e => by
            subst e
            rw [laidA_zero] at ha
            cases ha
            cases h3
          obtain ⟨c, h5, h6, h7, h8, h9⟩ := seg_of ha h0
          have ec : c = k := by omega
          subst ec
          have h10 : fstA bs H o c ≤ j := by unfold fstA; rw [if_pos hH]; omega
          obtain ⟨q, i, h11, h12⟩ := seg_code (n := n) h6 h7 h10 h9
          rw [ha] at h11
          cases h11
          rcases h12 with h12 | h12 <;> rw [h12] at h3 <;> cases h3
        omega
theorem phk_at (h : PhK bs H o l P n k ls) (hkn : k < n) (hko : (k : Int) ∈ o) (hH : H k = true) : ls[offA bs H o k]? = some ⟨3, k, -1, [], []⟩ := by
  rw [h.at_ _ _ (seg_phi (bs := bs) hkn hko hH), if_neg]
  rintro (h1 | h1 | ⟨-, h2⟩)
  · cases h1
  · cases h1
  · exact absurd h2 (by show ¬ (k : Int) < k; omega)
theorem phk_end (h : PhK bs H o l P n n ls) : ls = builtA (laidA bs H o n) l o P := by
  refine List.ext_getElem? fun j => ?_
  rcases Nat.lt_or_ge j (laidA bs H o n).length with hj | hj
  · have ha := List.getElem?_eq_getElem hj
    rw [h.at_ j _ ha, built_at ha]
    congr 1
    by_cases h2 : (laidA bs H o n)[j].kind = 1 ∨ (laidA bs H o n)[j].kind = 2 ∨ (laidA bs H o n)[j].kind = 3 ∧ (laidA bs H o n)[j].block < (n : Int)
    · rw [if_pos h2]
    · rw [if_neg h2]
      rcases kind_nat ha with h3 | h3 | h3 | h3
      · unfold accD
        rw [if_neg (by rw [h3]; simp), if_neg (by rw [h3]; simp)]
      · exact absurd (.inl h3) h2
      · exact absurd (.inr (.inl h3)) h2
      · exfalso
        refine h2 (.inr (.inr ⟨h3, ?_⟩))
        have h0 : 0 < j := Nat.pos_of_ne_zero fun e => by
          subst e
          rw [laidA_zero] at ha
          have e2 := Option.some.inj ha
          rw [← e2] at h3
          cases h3
        obtain ⟨c, h5, h6, -⟩ := seg_of ha h0
        omega
  · rw [List.getElem?_eq_none (by rw [h.len]; exact hj), List.getElem?_eq_none (by unfold builtA; simp; exact hj)]
end
/-- the rows of one access, e, under way: the world u behind V -/
structure Mid (V u : World) (e : AcV) (Bo : Nat) (vf vd : Value) (lf ld : List Int) : Prop where
  on : Only (fun q => e.has q) V.heap.size V u
  f : OwnI u Bo vf lf
  d : OwnI u Bo vd ld
  sep : ∀ q, vd.ownBlock = some q → vf.ownBlock ≠ some q
  frf : ∀ q, vf.ownBlock = some q → e.has q ∨ V.heap.size ≤ q
  frd : ∀ q, vd.ownBlock = some q → e.has q ∨ V.heap.size ≤ q
/-- a new block with one number in it -/
structure New1 (V u : World) (vf vd : Value) (g : Nat) (x : Int) : Prop where
  blk : u.heap[g]? = some (.cells #[.int .i64 x] 3 (0, 0))
  low : V.heap.size ≤ g
  nf : vf.ownBlock ≠ some g
  nd : vd.ownBlock ≠ some g
section
variable {V u u' : World} {e : AcV} {Bo g g' : Nat} {vf vd : Value} {lf ld : List Int} {x x' : Int} {o : Obj}
theorem Mid.drew (h : Mid V u e Bo vf vd lf ld) : Mid V u.drew e Bo vf vd lf ld := ⟨h.on.drew, ⟨row_kept h.f.row fun _ _ => rfl, h.f.ok⟩, ⟨row_kept h.d.row fun _ _ => rfl, h.d.ok⟩, h.sep, h.frf, h.frd⟩
theorem Only.cut_ {S : Nat → Prop} {B B' : Nat} {w w' : World} (h : Only (fun q => S q ∨ B ≤ q) B' w w') (hB : B ≤ B') : Only S B w w' :=
  ⟨h.os, h.tape, h.output, h.size, fun k hk hs => h.block k (by omega) (fun h' => by
    rcases h' with h' | h'
    · exact hs h'
    · omega)⟩
theorem New1.lt (h : New1 V u vf vd g x) : g < u.heap.size := (Array.getElem?_eq_some_iff.1 h.blk).1
theorem Mid.alloc (h : Mid V u e Bo vf vd lf ld) (x : Int) : Mid V (u.alloc (.cells #[.int .i64 x] 3)) e Bo vf vd lf ld ∧ New1 V (u.alloc (.cells #[.int .i64 x] 3)) vf vd u.heap.size x := by
  have hb := bk u (.cells #[.int .i64 x] 3)
  refine ⟨⟨h.on.alloc h.on.size _, h.f.below hb, h.d.below hb, h.sep, h.frf, h.frd⟩, box_top _ _, h.on.size, fun hq => ?_, fun hq => ?_⟩
  · have := (row_lt h.f.row hq).2.1; omega
  · have := (row_lt h.d.row hq).2.1; omega
theorem New1.alloc (h : New1 V u vf vd g x) (o : Obj) : New1 V (u.alloc o) vf vd g x := ⟨one_alloc h.blk o, h.low, h.nf, h.nd⟩
theorem OwnI.app {w' : World} {cap : Nat} (h : OwnI u Bo vf lf) (hx : I64 x) (hown : u'.ownsRow Bo 3 1 (.slice (some ⟨g, 0, none⟩) (lf.length + 1) cap) (lf.length + 1) (lf.map (fun z => Value.int .i64 z) ++ [.int .i64 x])) : OwnI u' Bo (.slice (some ⟨g, 0, none⟩) (lf.length + 1) cap) (lf ++ [x]) := OwnI.snoc h.ok hx hown
theorem Mid.appf {cap : Nat} (h : Mid V u e Bo vf vd lf ld) (hx : I64 x) (hown : u'.ownsRow Bo 3 1 (.slice (some ⟨g, 0, none⟩) (lf.length + 1) cap) (lf.length + 1) (lf.map (fun z => Value.int .i64 z) ++ [.int .i64 x])) (hg : u.grownBy u' vf.ownBlock) (hq : vf.ownBlock = some g ∨ g = u.heap.size) :
    Mid V u' e Bo (.slice (some ⟨g, 0, none⟩) (lf.length + 1) cap) vd (lf ++ [x]) ld := by
  refine ⟨h.on.grown h.on.size hg (fun q hq => (h.frf q hq)), OwnI.snoc h.f.ok hx hown, ⟨row_kept h.d.row fun q hq' => hg.block q (row_lt h.d.row hq').2.1 (fun e' => h.sep q hq' e'.symm), h.d.ok⟩, fun q hq' e' => ?_, fun q e' => ?_, h.frd⟩
  · have e2 : g = q := Option.some.inj e'
    subst e2
    rcases hq with hq | hq
    · exact h.sep g hq' hq
    · have := (row_lt h.d.row hq').2.1; omega
  · have e2 : g = q := Option.some.inj e'
    subst e2
    rcases hq with hq | hq
    · exact h.frf g hq
    · have := h.on.size; exact .inr (by omega)
theorem Mid.appd {cap : Nat} (h : Mid V u e Bo vf vd lf ld) (hx : I64 x) (hown : u'.ownsRow Bo 3 1 (.slice (some ⟨g, 0, none⟩) (ld.length + 1) cap) (ld.length + 1) (ld.map (fun z => Value.int .i64 z) ++ [.int .i64 x])) (hg : u.grownBy u' vd.ownBlock) (hq : vd.ownBlock = some g ∨ g = u.heap.size) :
    Mid V u' e Bo vf (.slice (some ⟨g, 0, none⟩) (ld.length + 1) cap) lf (ld ++ [x]) := by
  refine ⟨h.on.grown h.on.size hg (fun q hq => (h.frd q hq)), ⟨row_kept h.f.row fun q hq' => hg.block q (row_lt h.f.row hq').2.1 (fun e' => h.sep q e'.symm hq'), h.f.ok⟩, OwnI.snoc h.d.ok hx hown, fun q e' hq' => ?_, h.frf, fun q e' => ?_⟩
  · have e2 : g = q := Option.some.inj e'
    subst e2
    rcases hq with hq | hq
    · exact h.sep g hq hq'
    · have := (row_lt h.f.row hq').2.1; omega
  · have e2 : g = q := Option.some.inj e'
    subst e2
    rcases hq with hq | hq
    · exact h.frd g hq
    · have := h.on.size; exact .inr (by omega)
theorem New1.appf {v' : Value} (h : New1 V u vf vd g' x') (hg : u.grownBy u' vf.ownBlock) (hv : v'.ownBlock = some g) (hq : vf.ownBlock = some g ∨ g = u.heap.size) : New1 V u' v' vd g' x' := by
  refine ⟨(hg.block g' h.lt (fun e => h.nf e.symm)).trans h.blk, h.low, fun e => ?_, h.nd⟩
  rw [hv] at e
  have e2 : g = g' := Option.some.inj e
  subst e2
  rcases hq with hq | hq
  · exact h.nf hq
  · have := h.lt; omega
theorem New1.appd {v' : Value} (h : New1 V u vf vd g' x') (hg : u.grownBy u' vd.ownBlock) (hv : v'.ownBlock = some g) (hq : vd.ownBlock = some g ∨ g = u.heap.size) : New1 V u' vf v' g' x' := by
  refine ⟨(hg.block g' h.lt (fun e => h.nd e.symm)).trans h.blk, h.low, h.nf, fun e => ?_⟩
  rw [hv] at e
  have e2 : g = g' := Option.some.inj e
  subst e2
  rcases hq with hq | hq
  · exact h.nd hq
  · have := h.lt; omega
end
section
variable {V u : World} {B Bo gB gp gf ge : Nat} {x0 x1 x2 x3 : Value} {n : Nat} {ls : List Ac} {es : List AcV} {Lp Lf Le : List Int}
theorem Mid.start {v : Value} {ls : List Ac} {es : List AcV} {B i : Nat} {a : Ac} {e : AcV} (h : OwnAc V B Bo v ls es) (ha : ls[i]? = some a) (he : es[i]? = some e) : Mid V V e Bo e.f e.d a.orig a.defs := by
  obtain ⟨h1, h2⟩ := h.inn i a e ha he
  exact ⟨Only.refl _ _ _, h2, h1, fun q hd hf => h.self i e he q hd hf, fun q hq => .inl (.inr hq), fun q hq => .inl (.inl hq)⟩
/-- both slices stored -/
theorem Bld.both {go N Co i : Nat} {a : Ac} {e : AcV} {vf vd : Value} {lf ld : List Int} (h : Bld V B Bo gB gp gf ge x0 x1 x2 x3 (.slice (some ⟨go, 0, none⟩) N Co) n ls es Lp Lf Le) (ha : ls[i]? = some a) (he : es[i]? = some e) (hm : Mid V u e Bo vf vd lf ld) :
    Bld ((u.setCell ⟨go, i * 5 + 4, none⟩ vf).setCell ⟨go, i * 5 + 3, none⟩ vd) B Bo gB gp gf ge x0 x1 x2 x3 (.slice (some ⟨go, 0, none⟩) N Co) n (ls.set i ⟨a.kind, a.block, a.pos, ld, lf⟩) (es.set i ⟨vd, vf⟩) Lp Lf Le := by
  have hgo := row_lt h.out.row (k := go) rfl
  obtain ⟨hgo1, hgo2, cg, hgo3⟩ := hgo
  have hN : N = ls.length := h.out.num
  have hel := (List.getElem?_eq_some_iff.1 he).1
  have hal := (List.getElem?_eq_some_iff.1 ha).1
  have hgoe : ¬ e.has go := fun hh => by
    obtain ⟨-, -, c, hc⟩ := h.out.in_lt he hh
    exact blk_ne hc hgo3 (by decide) rfl
  have hfar : ∀ k, k < V.heap.size → ¬ e.has k → k ≠ go → ((u.setCell ⟨go, i * 5 + 4, none⟩ vf).setCell ⟨go, i * 5 + 3, none⟩ vd).heap[k]? = V.heap[k]? := fun k hk h1 h2 => by
    rw [Below.heap_setCell _ _ _ _ (show k ≠ (⟨go, i * 5 + 3, none⟩ : Addr).block from h2), Below.heap_setCell _ _ _ _ (show k ≠ (⟨go, i * 5 + 4, none⟩ : Addr).block from h2)]
    exact hm.on.block k hk h1
  have hint : ∀ {g : Nat} {l : List Int}, OwnN V B g n l → g < V.heap.size ∧ g ≠ go := fun hg => by
    obtain ⟨c, hc⟩ := hg.blk
    exact ⟨hg.lt.2, blk_ne hc hgo3 (by decide)⟩
  have hrow : u.ownsRow Bo 37 5 (.slice (some ⟨go, 0, none⟩) N Co) N (List.zipWith acC ls es).flatten := by
    have hr := h.out.row
    rw [← hN] at hr
    exact row_kept hr fun k hk => by
      have e9 : go = k := Option.some.inj hk
      subst e9
      exact hm.on.block go hgo2 hgoe
  have h1 := ac_row_put (j := 4) (u := vf) hrow acC_all (acC_at ha he) (by omega)
  have hall : ∀ c, c ∈ (List.zipWith acC ls es).set i ((acC a e).set 4 vf) → c.length = 5 := fun c hc => by
    rcases List.mem_or_eq_of_mem_set hc with h2 | h2
    · exact acC_all c h2
    · rw [h2]; rfl
  have h2 := ac_row_put (j := 3) (u := vd) h1 hall (List.getElem?_set_self (by rw [List.length_zipWith]; omega)) (by omega)
  rw [List.set_set] at h2
  have h3 : ((u.setCell ⟨go, i * 5 + 4, none⟩ vf).setCell ⟨go, i * 5 + 3, none⟩ vd).ownsRow Bo 37 5 (.slice (some ⟨go, 0, none⟩) N Co) N (List.zipWith acC (ls.set i ⟨a.kind, a.block, a.pos, ld, lf⟩) (es.set i ⟨vd, vf⟩)).flatten := by
    rw [← zip_set h.out.len hal]
    exact h2
  have hkeep : ∀ {v : Value} {l : List Int}, OwnI u Bo v l → (∀ q, v.ownBlock = some q → q ≠ go) → OwnI ((u.setCell ⟨go, i * 5 + 4, none⟩ vf).setCell ⟨go, i * 5 + 3, none⟩ vd) Bo v l := fun hv hq => ⟨row_kept hv.row fun q hq' => by
    rw [Below.heap_setCell _ _ _ _ (show q ≠ (⟨go, i * 5 + 3, none⟩ : Addr).block from hq q hq'), Below.heap_setCell _ _ _ _ (show q ≠ (⟨go, i * 5 + 4, none⟩ : Addr).block from hq q hq')], hv.ok⟩
  have hgou : u.heap[go]? = some (.cells cg 37 (0, 0)) := (hm.on.block go hgo2 hgoe).trans hgo3
  have hqf : ∀ q, vf.ownBlock = some q → q ≠ go := fun q hq => by
    obtain ⟨-, -, c, hc⟩ := row_lt hm.f.row hq
    exact blk_ne hc hgou (by decide)
  have hqd : ∀ q, vd.ownBlock = some q → q ≠ go := fun q hq => by
    obtain ⟨-, -, c, hc⟩ := row_lt hm.d.row hq
    exact blk_ne hc hgou (by decide)
  have hsepe := h.sep i e
  refine ⟨(hfar gB h.lt (fun hh => by
      obtain ⟨-, -, c, hc⟩ := h.out.in_lt he hh
      exact blk_ne h.box hc (by decide) rfl) (blk_ne h.box hgo3 (by decide))).trans h.box, h.low, h.bo, h.out.remake (x' := ⟨a.kind, a.block, a.pos, ld, lf⟩) (e' := ⟨vd, vf⟩) ha he h3 (hkeep hm.d hqd) (hkeep hm.f hqf) (fun q hq => hm.sep q hq) (fun k _ hk h4 h5 => hfar k hk h4 h5) (fun k hk => ?_), h.p.keep (hfar gp (hint h.p).1 (fun hh => (hsepe gp he hh).1 rfl) (hint h.p).2), h.f.keep (hfar gf (hint h.f).1 (fun hh => (hsepe gf he hh).2.1 rfl) (hint h.f).2), h.e.keep (hfar ge (hint h.e).1 (fun hh => (hsepe ge he hh).2.2 rfl) (hint h.e).2), h.pf, h.pe, h.fe, fun j ej k hj hk => ?_⟩
  · rcases hk with hk | hk
    · exact hm.frd k hk
    · exact hm.frf k hk
  · by_cases e2 : i = j
    · subst e2
      rw [List.getElem?_set_self hel] at hj
      cases hj
      have h6 : e.has k ∨ V.heap.size ≤ k := by
        rcases hk with hk | hk
        · exact hm.frd k hk
        · exact hm.frf k hk
      rcases h6 with h6 | h6
      · exact hsepe k he h6
      · have h7 := (hint h.p).1
        have h8 := (hint h.f).1
        have h9 := (hint h.e).1
        omega
    · rw [List.getElem?_set_ne e2] at hj
      exact h.sep j ej k hj hk
end
end Go.Proofs.Yteeclobpajalmaa
