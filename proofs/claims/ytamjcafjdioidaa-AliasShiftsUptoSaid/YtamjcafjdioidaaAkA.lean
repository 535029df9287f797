/- Roots without fuel; what a Gep's root is; AliasKin, plain. No condition. -/
import Derived.Test.YtamjcafjdioidaaVrR
import Derived.Test.YtamjcafjdioidaaAlH
namespace Go.Proofs.Ytamjcafjdioidaa
open Go.RowKit
set_option linter.unusedSimpArgs false
set_option linter.unusedVariables false

inductive RootB (bs : List (List Ins)) : List Int → Int → Bool → Opd → Opd × Int × Bool → Prop
  | stop {met off k v} : ((makerS bs v).bind fun p => gepOf p.1) = none → RootB bs met off k v (v, off, k)
  | met {met off k v a b} : ((makerS bs v).bind fun p => gepOf p.1) = some (a, b) → met.contains v.num = true → RootB bs met off k v (v, off, false)
  | step {met off k v a b o} : ((makerS bs v).bind fun p => gepOf p.1) = some (a, b) → met.contains v.num = false →
      RootB bs (v.num :: met) (if b.kind = 2 then offAdd off b.bits else off) (k && decide (b.kind = 2)) a o → RootB bs met off k v o
section
variable {bs : List (List Ins)}
theorem rootB_one {met : List Int} {off : Int} {k : Bool} {v : Opd} {o o' : Opd × Int × Bool} (h : RootB bs met off k v o) : RootB bs met off k v o' → o = o' := by
  induction h with
  | stop h => intro h'; cases h' with
    | stop => rfl
    | met h1 => rw [h] at h1; cases h1
    | step h1 => rw [h] at h1; cases h1
  | met h hm => intro h'; cases h' with
    | stop h1 => rw [h] at h1; cases h1
    | met => rfl
    | step h1 h2 => rw [hm] at h2; cases h2
  | step h hm hr ih => intro h'; cases h' with
    | stop h1 => rw [h] at h1; cases h1
    | met h1 h2 => rw [hm] at h2; cases h2
    | step h1 h2 h3 =>
      rw [h] at h1
      cases h1
      exact ih h3
theorem bind_mem {v : Opd} {a b : Opd} (h : ((makerS bs v).bind fun p => gepOf p.1) = some (a, b)) : v.num ∈ regsM bs := by
  cases hm : makerS bs v with
  | none => rw [hm] at h; cases h
  | some p =>
    obtain ⟨-, h2, h3⟩ := makerS_mem (ins := p.1) (i := p.2) hm
    exact List.mem_map.2 ⟨p.1, h2, h3⟩
theorem rootB_go : ∀ {g : Nat} {met : List Int} {off : Int} {k : Bool} {v : Opd}, met.Nodup → (∀ x, x ∈ met → x ∈ regsM bs) → g + met.length = (regsM bs).length + 1 → RootB bs met off k v (rootGo bs g met off k v)
  | 0, met, off, k, v, hd, hs, hl => by
    have := nodup_sub_len hd hs
    omega
  | g + 1, met, off, k, v, hd, hs, hl => by
    rw [rootGo]
    cases hb : ((makerS bs v).bind fun p => gepOf p.1) with
    | none => exact RootB.stop hb
    | some q =>
      obtain ⟨a, b⟩ := q
      by_cases hm : met.contains v.num = true
      · simp only [hm, if_true]
        exact RootB.met hb hm
      · have hm' : met.contains v.num = false := by simpa using hm
        simp only [hm', Bool.false_eq_true, if_false]
        refine RootB.step hb hm' (rootB_go ?_ ?_ ?_)
        · refine List.nodup_cons.2 ⟨?_, hd⟩
          intro hc
          rw [List.contains_iff_mem.2 hc] at hm'
          cases hm'
        · intro x hx
          rcases List.mem_cons.1 hx with rfl | hx
          · exact bind_mem hb
          · exact hs x hx
        · simp only [List.length_cons]; omega
theorem rootB_root (v : Opd) : RootB bs [] 0 true v (rootR bs v) := rootB_go List.nodup_nil (fun x hx => by cases hx) rfl
theorem rootR_eq {v : Opd} {o : Opd × Int × Bool} (h : RootB bs [] 0 true v o) : rootR bs v = o := rootB_one (rootB_root v) h
/-- once unknown, never known again -/
theorem rootB_known {met : List Int} {off : Int} {k : Bool} {v : Opd} {o : Opd × Int × Bool} (h : RootB bs met off k v o) : o.2.2 = true → k = true := by
  induction h with
  | stop => exact id
  | met => intro h; cases h
  | step h hm hr ih => intro h; exact (Bool.and_eq_true_iff.1 (ih h)).1
theorem off_step {y' off' off bits z : Int} (h : wrap64 (y' - offAdd off' bits) = wrap64 (z - offAdd off bits)) : wrap64 (y' - off') = wrap64 (z - off) := by
  unfold offAdd wrap64 at *
  omega
theorem wrap_wrap (z : Int) : wrap64 (wrap64 z) = wrap64 z := by unfold wrap64; omega
/-- a chain that never comes to a register is the same whether or not that register was met ahead -/
theorem rootB_shift {r : Int} {a : Opd} (hr : ∀ v : Opd, v.num = r → v.kind = 1 → ∀ a' b', ((makerS bs v).bind fun p => gepOf p.1) = some (a', b') → a' = a) {met : List Int} {off : Int} {k : Bool} {v : Opd} {o : Opd × Int × Bool} (h : RootB bs met off k v o) :
    (v = a ∨ (met.contains a.num = true ∧ ∃ q, ((makerS bs a).bind fun p => gepOf p.1) = some q)) → o.2.2 = true →
    ∀ (met' : List Int) (off' : Int), (∀ x, met'.contains x = true → x = r ∨ met.contains x = true) → ∃ y', RootB bs met' off' true v (o.1, y', true) ∧ wrap64 (y' - off') = wrap64 (o.2.1 - off) ∧ (wrap64 off' = off' → wrap64 y' = y') := by
  induction h with
  | stop h => intro _ _ met' off' _; exact ⟨off', RootB.stop h, by simp, id⟩
  | met => intro _ h; cases h
  | @step met off k v b1 b o h hm hrr ih =>
    intro ha hk met' off' hs
    have hkk := rootB_known hrr hk
    obtain ⟨-, hb2⟩ := Bool.and_eq_true_iff.1 hkk
    have hb2 := of_decide_eq_true hb2
    rw [if_pos hb2] at ih
    have hvr : v.num ≠ r := by
      intro e
      have hk1 : v.kind = 1 := by
        cases hmk : makerS bs v with
        | none => rw [hmk] at h; cases h
        | some p => exact (makerS_mem (ins := p.1) (i := p.2) hmk).1
      have e2 := hr v e hk1 _ _ h
      subst e2
      have hmeet : ∃ q, ((makerS bs b1).bind fun p => gepOf p.1) = some q ∧ (v.num :: met).contains b1.num = true := by
        rcases ha with rfl | ⟨h1, q, h2⟩
        · exact ⟨_, h, by simp⟩
        · exact ⟨q, h2, by rw [List.contains_cons, h1, Bool.or_true]⟩
      obtain ⟨q, h1, h2⟩ := hmeet
      have := rootB_one hrr (RootB.met (a := q.1) (b := q.2) h1 h2)
      rw [this] at hk
      cases hk
    have hm' : met'.contains v.num = false := by
      cases hc : met'.contains v.num with
      | false => rfl
      | true =>
        rcases hs _ hc with h1 | h1
        · exact (hvr h1).elim
        · rw [hm] at h1; cases h1
    obtain ⟨y', h1, h2, h3⟩ := ih (by
      right
      rcases ha with rfl | ⟨h1, q, h2⟩
      · exact ⟨by simp, _, h⟩
      · exact ⟨by rw [List.contains_cons, h1, Bool.or_true], q, h2⟩) hk (v.num :: met') (offAdd off' b.bits) (by
      intro x hx
      rw [List.contains_cons] at hx ⊢
      rcases Bool.or_eq_true_iff.1 hx with hx | hx
      · right; rw [hx]; rfl
      · rcases hs x hx with h1 | h1
        · exact .inl h1
        · right; rw [h1, Bool.or_true])
    refine ⟨y', ?_, off_step h2, fun _ => h3 (by unfold offAdd; exact wrap_wrap _)⟩
    refine RootB.step h hm' ?_
    rw [if_pos hb2, decide_eq_true hb2]
    exact h1
/-- a Gep of a known offset -/
theorem root_gep {r : Int} {z : Int} {i : Nat} {ins : Ins} {a b : Opd} (hm : ∀ y, makerS bs ⟨1, r, y⟩ = some (ins, i)) (hg : gepOf ins = some (a, b)) (hb : b.kind = 2) (hk : (rootS bs a).2.2 = true) :
    rootS bs ⟨1, r, z⟩ = ((rootS bs a).1, wrap64 ((rootS bs a).2.1 + wrap64 b.bits), true) := by
  have hbind : ∀ y, ((makerS bs ⟨1, r, y⟩).bind fun p => gepOf p.1) = some (a, b) := fun y => by rw [hm y]; exact hg
  obtain ⟨y', h1, h2, h3⟩ := rootB_shift (r := r) (a := a) (fun v e1 e2 a' b' h => by
    obtain ⟨vk, vn, vb⟩ := v
    have e1' : vk = 1 := e2
    have e2' : vn = r := e1
    subst e1' e2'
    rw [hbind] at h
    cases h
    rfl) (rootB_root (bs := bs) a) (.inl rfl) hk [r] (offAdd 0 b.bits) (fun x hx => by
      left
      have := List.contains_iff_mem.1 hx
      simpa using this)
  have hw : wrap64 (offAdd 0 b.bits) = offAdd 0 b.bits := by unfold offAdd; exact wrap_wrap _
  have h4 := h3 hw
  have hs : RootB bs [] 0 true ⟨1, r, z⟩ ((rootR bs a).1, y', true) := by
    refine RootB.step (hbind z) (by simp) ?_
    rw [if_pos hb, decide_eq_true hb]
    exact h1
  have e := rootR_eq hs
  have hk' : (rootR bs a).2.2 = true := hk
  unfold rootS
  rw [e, hk']
  simp only [if_true]
  refine Prod.ext rfl (Prod.ext ?_ rfl)
  show y' = wrap64 ((rootR bs a).2.1 + wrap64 b.bits)
  have h2' : wrap64 (y' - offAdd 0 b.bits) = wrap64 ((rootR bs a).2.1 - 0) := h2
  clear h1 h2 h3 hs e hk hk' hw
  revert h2' h4
  generalize (rootR bs a).2.1 = q
  unfold offAdd wrap64
  omega
end
/-- what of a right function's registers -/
theorem right_fun {m : Mod} {f : Fun} (h : rightB m = true) (hf : f ∈ m.funcs) : FunRight m f := by
  obtain ⟨i, hi⟩ := List.mem_iff_getElem?.1 hf
  exact (dec8_iff.1 h).2 i f hi
section
variable {m : Mod} {f : Fun} {b j : Nat} {blk : List Ins} {x : Ins}
theorem right_form (h : FunRight m f) (hb : f.blocks[b]? = some blk) (hj : blk[j]? = some x) : FormOk m f.ret x b := allAt_iff.1 h.2.1 b j blk x hb hj
theorem right_reg (h : FunRight m f) (hb : f.blocks[b]? = some blk) (hj : blk[j]? = some x) (hr : iresult x.op x.ty ≠ 0) : (f.params.length : Int) ≤ x.reg ∧ x.reg ≤ 4095 ∧ IsDef f.blocks x.reg b j := by
  rcases allAt_iff.1 h.2.2.1 b j blk x hb hj with h1 | ⟨h1, h2, b', j', h3, h4⟩
  · exact (hr h1).elim
  · cases h3
    exact ⟨h1, h2, h4⟩
theorem right_noreg (h : FunRight m f) (hb : f.blocks[b]? = some blk) (hj : blk[j]? = some x) (hr : iresult x.op x.ty = 0) : x.reg = -1 := by
  have h1 := (right_form h hb hj).1
  simp only [formedB, Bool.and_eq_true, decide_eq_true_eq] at h1
  exact h1.1.1.2.1 hr
theorem right_param (h : FunRight m f) {p : Int} (h0 : 0 ≤ p) (hp : p < f.params.length) : noDef f.blocks.flatten p := by
  intro y hy
  obtain ⟨blk, h1, h2⟩ := List.mem_flatten.1 hy
  obtain ⟨b, hb⟩ := List.mem_iff_getElem?.1 h1
  obtain ⟨j, hj⟩ := List.mem_iff_getElem?.1 h2
  by_cases hr : iresult y.op y.ty = 0
  · unfold defs
    rw [hr]
    simp
  · have := (right_reg h hb hj hr).1
    unfold defs
    simp only [Bool.and_eq_false_iff, beq_eq_false_iff_ne, bne_eq_false_iff_eq, decide_eq_false_iff_not, ne_eq]
    omega
theorem right_gep (h : FunRight m f) (hb : f.blocks[b]? = some blk) (hj : blk[j]? = some x) (ho : x.op = 29) : ∃ a c, x.args = [a, c] := by
  have h1 := (right_form h hb hj).1
  simp only [formedB, Bool.and_eq_true, decide_eq_true_eq] at h1
  have h2 := h1.1.1.1.1
  rw [show (manyS f.ret x).1 = 2 from by unfold manyS; simp [ho]] at h2
  match hx : x.args with
  | [a, c] => exact ⟨a, c, rfl⟩
  | [] => rw [hx] at h2; simp at h2
  | [a] => rw [hx] at h2; simp at h2
  | a :: c :: d :: l => rw [hx] at h2; simp at h2; omega
theorem right_made (h : FunRight m f) (hb : f.blocks[b]? = some blk) (hj : blk[j]? = some x) (hr : iresult x.op x.ty ≠ 0) (z : Int) : makerS f.blocks ⟨1, x.reg, z⟩ = some (x, b) :=
  makerS_some rfl hb hj (right_reg h hb hj hr).2.2
/-- a Gep's root -/
theorem kin_gep (h : FunRight m f) (hb : f.blocks[b]? = some blk) (hj : blk[j]? = some x) (ho : x.op = 29) {a c : Opd} (ha : x.args = [a, c]) (hc : c.kind = 2) (hk : (rootS f.blocks a).2.2 = true) :
    rootS f.blocks ⟨1, x.reg, 0⟩ = ((rootS f.blocks a).1, wrap64 ((rootS f.blocks a).2.1 + wrap64 c.bits), true) :=
  root_gep (fun y => right_made h hb hj (by unfold iresult; simp [ho]) y) (gepOf_args ho ha) hc hk
/-- an Alloca is its own root -/
theorem alloca_of (h : FunRight m f) (hb : f.blocks[b]? = some blk) (hj : blk[j]? = some x) (ho : x.op = 26) : (ofS f.params.length f.blocks ⟨1, x.reg, 0⟩).v = ⟨1, x.reg, 0⟩ ∧ (ofS f.params.length f.blocks ⟨1, x.reg, 0⟩).alloca = true := by
  have hm := right_made h hb hj (by unfold iresult; simp [ho]) 0
  have hr : (rootS f.blocks ⟨1, x.reg, 0⟩).1 = ⟨1, x.reg, 0⟩ := by
    unfold rootS rootR
    rw [rootGo_stop hm (gepOf_op (by omega))]
  refine ⟨hr, ?_⟩
  show allocaS f.blocks (rootS f.blocks ⟨1, x.reg, 0⟩).1 = true
  rw [hr, alloca_yes hm, ho]
  rfl
theorem param_of (h : FunRight m f) {p : Int} (h0 : 0 ≤ p) (hp : p < f.params.length) : (ofS f.params.length f.blocks ⟨1, p, 0⟩).v = ⟨1, p, 0⟩ := by
  show (rootS f.blocks ⟨1, p, 0⟩).1 = _
  unfold rootS rootR
  rw [rootGo_none (makerS_no (right_param h h0 hp))]
/-- two Allocas never meet -/
theorem kin_two (h : FunRight m f) (hb : f.blocks[b]? = some blk) (hj : blk[j]? = some x) (ho : x.op = 26) {b' j' : Nat} {blk' : List Ins} {x' : Ins} (hb' : f.blocks[b']? = some blk') (hj' : blk'[j']? = some x') (ho' : x'.op = 26) (hne : ¬ (b = b' ∧ j = j')) (t u : Int) :
    askS f.params.length f.blocks ⟨1, x.reg, 0⟩ t ⟨1, x'.reg, 0⟩ u = 0 := by
  obtain ⟨h1, h2⟩ := alloca_of h hb hj ho
  obtain ⟨h1', h2'⟩ := alloca_of h hb' hj' ho'
  have hr : x.reg ≠ x'.reg := by
    intro e
    have d1 := (right_reg h hb hj (by unfold iresult; simp [ho])).2.2
    have d2 := (right_reg h hb' hj' (by unfold iresult; simp [ho'])).2.2
    rw [← e] at d2
    exact hne (isDef_one d1 d2)
  unfold askS askR
  rw [h1, h1', h2, h2']
  have hne2 : ¬ (⟨1, x.reg, 0⟩ : Opd) = ⟨1, x'.reg, 0⟩ := by
    intro e
    injection e with _ e2 _
    exact hr e2
  rw [if_neg hne2]
  simp [objS, h2, h2']
/-- what doesn't escape meets no parameter -/
theorem kin_param (h : FunRight m f) (hb : f.blocks[b]? = some blk) (hj : blk[j]? = some x) (ho : x.op = 26) {p : Int} (h0 : 0 ≤ p) (hp : p < f.params.length) (he : escS f.blocks x.reg = false) (t u : Int) :
    askS f.params.length f.blocks ⟨1, p, 0⟩ t ⟨1, x.reg, 0⟩ u = 0 := by
  obtain ⟨h1, h2⟩ := alloca_of h hb hj ho
  have h3 := param_of h h0 hp
  have hr := (right_reg h hb hj (by unfold iresult; simp [ho])).1
  unfold askS askR
  rw [h1, h3, h2]
  have hne2 : ¬ (⟨1, p, 0⟩ : Opd) = ⟨1, x.reg, 0⟩ := by
    intro e
    injection e with _ e2 _
    omega
  rw [if_neg hne2]
  simp [he]
end
/-- the registers of the Allocas -/
def alR (l : List Ins) : List Int := (l.filter fun x => x.op == 26).map Ins.reg
theorem alR_yes {l : List Ins} {x : Ins} (h : (x.op == 26) = true) : alR (l ++ [x]) = alR l ++ [x.reg] := by simp [alR, h]
theorem alR_no {l : List Ins} {x : Ins} (h : (x.op == 26) = false) : alR (l ++ [x]) = alR l := by simp [alR, h]
theorem alR_len (l : List Ins) : (alR l).length ≤ l.length := by unfold alR; rw [List.length_map]; exact List.length_filter_le _ _
theorem alR_mem {f : Fun} {a : Int} (h : a ∈ alR f.blocks.flatten) : ∃ (b j : Nat) (blk : List Ins) (x : Ins), f.blocks[b]? = some blk ∧ blk[j]? = some x ∧ x.op = 26 ∧ x.reg = a := by
  obtain ⟨x, hx, rfl⟩ := List.mem_map.1 h
  obtain ⟨h1, h2⟩ := List.mem_filter.1 hx
  obtain ⟨blk, h3, h4⟩ := List.mem_flatten.1 h1
  obtain ⟨b, hb⟩ := List.mem_iff_getElem?.1 h3
  obtain ⟨j, hj⟩ := List.mem_iff_getElem?.1 h4
  exact ⟨b, j, blk, x, hb, hj, by simpa using h2, rfl⟩
theorem alR_step {m : Mod} {f : Fun} (h : FunRight m f) {b j : Nat} {blk : List Ins} {x : Ins} (hb : f.blocks[b]? = some blk) (hj : blk[j]? = some x) (ho : x.op = 26) (hn : (alR (before f.blocks b j)).Nodup) : (alR (before f.blocks b j) ++ [x.reg]).Nodup := by
  refine List.nodup_append.2 ⟨hn, List.nodup_cons.2 ⟨by simp, List.nodup_nil⟩, ?_⟩
  intro u hu v hv
  rw [List.mem_singleton.1 hv]
  obtain ⟨y, hy, rfl⟩ := List.mem_map.1 hu
  obtain ⟨h1, h2⟩ := List.mem_filter.1 hy
  obtain ⟨-, -, -, -, -, h4⟩ := (right_reg h hb hj (by unfold iresult; simp [ho])).2.2
  have h5 := h4 y h1
  have h6 : y.op = 26 := by simpa using h2
  unfold defs at h5
  intro e
  rw [e] at h5
  simp [iresult, h6] at h5
theorem nodup_get {l : List Int} (h : l.Nodup) : ∀ {i k : Nat} {a c : Int}, l[i]? = some a → l[k]? = some c → i ≠ k → a ≠ c := fun {i k a c} hi hk hne e => by
  subst e
  obtain ⟨h1, h2⟩ := List.getElem?_eq_some_iff.1 hi
  obtain ⟨h3, h4⟩ := List.getElem?_eq_some_iff.1 hk
  have h5 := List.pairwise_iff_getElem.1 h
  rcases Nat.lt_or_gt_of_ne hne with h6 | h6
  · exact h5 i k h1 h3 h6 (h2.trans h4.symm)
  · exact h5 k i h3 h1 h6 (h4.trans h2.symm)
theorem kin_pair {m : Mod} {f : Fun} (h : FunRight m f) {a c : Int} (ha : a ∈ alR f.blocks.flatten) (hc : c ∈ alR f.blocks.flatten) (hne : a ≠ c) (t u : Int) : askS f.params.length f.blocks ⟨1, a, 0⟩ t ⟨1, c, 0⟩ u = 0 := by
  obtain ⟨b, j, blk, x, hb, hj, ho, rfl⟩ := alR_mem ha
  obtain ⟨b', j', blk', x', hb', hj', ho', rfl⟩ := alR_mem hc
  refine kin_two h hb hj ho hb' hj' ho' ?_ t u
  rintro ⟨rfl, rfl⟩
  rw [hb] at hb'; cases hb'
  rw [hj] at hj'; cases hj'
  exact hne rfl
theorem kin_par {m : Mod} {f : Fun} (h : FunRight m f) {a : Int} (ha : a ∈ alR f.blocks.flatten) {p : Nat} (hp : p < f.params.length) (he : escS f.blocks a = false) (t u : Int) : askS f.params.length f.blocks ⟨1, p, 0⟩ t ⟨1, a, 0⟩ u = 0 := by
  obtain ⟨b, j, blk, x, hb, hj, ho, rfl⟩ := alR_mem ha
  exact kin_param h hb hj ho (by omega) (by omega) he t u
end Go.Proofs.Ytamjcafjdioidaa
