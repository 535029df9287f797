/- AliasShifts, plain: two Geps laid ahead of the end of block 0. No condition. -/
import Derived.Test.YtamjcafjdioidaaAkA
namespace Go.Proofs.Ytamjcafjdioidaa
open Go.RowKit
set_option linter.unusedSimpArgs false
set_option linter.unusedVariables false

/-- the maker, reckoned block by block -/
def mk2 (n : Int) : List (List Ins) → Nat → Option (Ins × Nat)
  | [], _ => none
  | x :: rest, k => match x.find? (fun y => defs y n) with | some ins => some (ins, k) | none => mk2 n rest (k + 1)
theorem find_spot {x : List Ins} {n : Int} {ins : Ins} (h : x.find? (fun y => defs y n) = some ins) : ∃ j, x[j]? = some ins ∧ defs ins n = true ∧ noDef (x.take j) n := by
  obtain ⟨h1, la, lb, h2, h3⟩ := List.find?_eq_some_iff_append.1 h
  refine ⟨la.length, by rw [h2]; simp, h1, ?_⟩
  rw [h2, List.take_left']
  · intro y hy
    simpa using h3 y hy
  · rfl
theorem mk2_some {n : Int} : ∀ {bs : List (List Ins)} {k : Nat} {ins : Ins} {i : Nat}, mk2 n bs k = some (ins, i) → ∃ i' j x, i = k + i' ∧ bs[i']? = some x ∧ x[j]? = some ins ∧ IsDef bs n i' j
  | [], k, ins, i, h => by cases h
  | b :: rest, k, ins, i, h => by
    unfold mk2 at h
    split at h
    · rename_i ins' hf
      cases h
      obtain ⟨j, h1, h2, h3⟩ := find_spot hf
      refine ⟨0, j, b, rfl, rfl, h1, b, _, rfl, h1, h2, ?_⟩
      intro y hy
      exact h3 y (by simpa [before] using hy)
    · rename_i hf
      obtain ⟨i', j, x, h1, h2, h3, x', ins', h4, h5, h6, h7⟩ := mk2_some h
      refine ⟨i' + 1, j, x, by omega, h2, h3, x', ins', h4, h5, h6, ?_⟩
      intro y hy
      unfold before at hy h7
      simp only [List.take_succ_cons, List.flatten_cons, List.append_assoc] at hy
      rcases List.mem_append.1 hy with h | h
      · have := List.find?_eq_none.1 hf y h
        simpa using this
      · exact h7 y (by simpa using h)
theorem mk2_none {n : Int} : ∀ {bs : List (List Ins)} {k : Nat}, mk2 n bs k = none → noDef bs.flatten n
  | [], k, h => fun x hx => by cases hx
  | b :: rest, k, h => by
    unfold mk2 at h
    split at h
    · cases h
    · rename_i hf
      intro y hy
      rw [List.flatten_cons] at hy
      rcases List.mem_append.1 hy with h1 | h1
      · have := List.find?_eq_none.1 hf y h1
        simpa using this
      · exact mk2_none h y h1
theorem makerS_mk2 (bs : List (List Ins)) (v : Opd) (hk : v.kind = 1) : makerS bs v = mk2 v.num bs 0 := by
  cases h : mk2 v.num bs 0 with
  | none => exact makerS_no (mk2_none h)
  | some o =>
    obtain ⟨ins, i⟩ := o
    obtain ⟨i', j, x, e, h2, h3, h4⟩ := mk2_some h
    obtain rfl : i = i' := by omega
    exact makerS_some hk h2 h3 h4
theorem makerS_def {bs : List (List Ins)} {v : Opd} {o : Ins × Nat} (h : makerS bs v = some o) : v.kind = 1 ∧ ∃ y, y ∈ bs.flatten ∧ defs y v.num = true := by
  by_cases hk : v.kind = 1
  · refine ⟨hk, ?_⟩
    rw [makerS_mk2 bs v hk] at h
    obtain ⟨i', j, x, -, h2, h3, x', ins', h4, h5, h6, -⟩ := mk2_some (ins := o.1) (i := o.2) h
    exact ⟨ins', before_mem h4 h5, h6⟩
  · rw [makerS_kind hk] at h; cases h

/-- a Gep -/
def gepI (r : Int) (p : Opd) (by_ : Int) : Ins := ⟨29, r, 65, 0, 0, [p, ⟨2, 0, by_⟩], []⟩
theorem defs_gep (r : Int) (p : Opd) (y n : Int) : defs (gepI r p y) n = decide (r = n) := by
  unfold defs gepI
  by_cases h : r = n
  · simp [h, iresult]
  · simp [h]
section
variable {l0 : List Ins} {e : Ins} {rest : List (List Ins)} {r s : Int} {p q : Opd} {z : Int}
def shB (l0 : List Ins) (e : Ins) (rest : List (List Ins)) (r s : Int) (p q : Opd) (z : Int) : List (List Ins) := (l0 ++ [gepI r p z, gepI s q z, e]) :: rest
theorem shift_mk {v : Opd} (h : v.kind = 1 → v.num ≠ r ∧ v.num ≠ s) : makerS (shB l0 e rest r s p q z) v = makerS ((l0 ++ [e]) :: rest) v := by
  by_cases hk : v.kind = 1
  · obtain ⟨h1, h2⟩ := h hk
    rw [makerS_mk2 _ v hk, makerS_mk2 _ v hk]
    unfold shB mk2
    have e1 : (l0 ++ [gepI r p z, gepI s q z, e]).find? (fun y => defs y v.num) = (l0 ++ [e]).find? (fun y => defs y v.num) := by
      rw [List.find?_append, List.find?_append]
      congr 1
      rw [List.find?_cons, defs_gep, List.find?_cons, defs_gep]
      simp [Ne.symm h1, Ne.symm h2]
    rw [e1]
  · rw [makerS_kind hk, makerS_kind hk]
theorem no_app {l : List Ins} {a : Ins} {n : Int} (h : noDef (l ++ [a]) n) : noDef l n := fun x hx => h x (List.mem_append_left _ hx)
theorem shift_r (hr : noDef ((l0 ++ [e]) :: rest).flatten r) (y : Int) : makerS (shB l0 e rest r s p q z) ⟨1, r, y⟩ = some (gepI r p z, 0) := by
  rw [makerS_mk2 _ _ rfl]
  unfold shB mk2
  have h1 : noDef l0 r := fun x hx => hr x (by simp [hx])
  rw [List.find?_append, find_none h1, List.find?_cons, defs_gep]
  simp
theorem shift_s (hs : noDef ((l0 ++ [e]) :: rest).flatten s) (hrs : r ≠ s) (y : Int) : makerS (shB l0 e rest r s p q z) ⟨1, s, y⟩ = some (gepI s q z, 0) := by
  rw [makerS_mk2 _ _ rfl]
  unfold shB mk2
  have h1 : noDef l0 s := fun x hx => hs x (by simp [hx])
  rw [List.find?_append, find_none h1, List.find?_cons, defs_gep, List.find?_cons, defs_gep]
  simp [hrs]
theorem gep_gep (r : Int) (p : Opd) (z : Int) : gepOf (gepI r p z) = some (p, ⟨2, 0, z⟩) := rfl
theorem shift_root (hr : noDef ((l0 ++ [e]) :: rest).flatten r) (hs : noDef ((l0 ++ [e]) :: rest).flatten s) {met : List Int} {off : Int} {k : Bool} {v : Opd} {o : Opd × Int × Bool} (h : RootB ((l0 ++ [e]) :: rest) met off k v o) :
    o.2.2 = true → ¬ (o.1.kind = 1 ∧ (o.1.num = r ∨ o.1.num = s)) → RootB (shB l0 e rest r s p q z) met off k v o := by
  induction h with
  | @stop met off k v h =>
    intro _ hn
    refine RootB.stop ?_
    rw [shift_mk fun hk => ⟨fun e1 => hn ⟨hk, .inl e1⟩, fun e1 => hn ⟨hk, .inr e1⟩⟩]
    exact h
  | met => intro h; cases h
  | @step met off k v a b o h hm hrr ih =>
    intro h1 h2
    have hmk : makerS (shB l0 e rest r s p q z) v = makerS ((l0 ++ [e]) :: rest) v := by
      refine shift_mk fun hk => ?_
      cases hm2 : makerS ((l0 ++ [e]) :: rest) v with
      | none => rw [hm2] at h; cases h
      | some o2 =>
        obtain ⟨-, y, hy, hd⟩ := makerS_def hm2
        refine ⟨fun e1 => ?_, fun e1 => ?_⟩
        · rw [e1, hr y hy] at hd; cases hd
        · rw [e1, hs y hy] at hd; cases hd
    refine RootB.step (a := a) (b := b) ?_ hm (ih h1 h2)
    rw [hmk]
    exact h
theorem rootS_of {bs : List (List Ins)} {v : Opd} {o : Opd × Int × Bool} (h : RootB bs [] 0 true v o) : rootS bs v = (o.1, if o.2.2 then o.2.1 else 0, o.2.2) := by
  unfold rootS
  rw [rootR_eq h]
theorem apart_shift (x y z : Int) : apartS (wrap64 (x + wrap64 z)) (wrap64 (y + wrap64 z)) = apartS x y := by
  unfold apartS wrap64
  omega
/-- the law -/
theorem alias_shift {np : Nat} (hr : noDef ((l0 ++ [e]) :: rest).flatten r) (hs : noDef ((l0 ++ [e]) :: rest).flatten s) (hrs : r ≠ s) (hnr : (np : Int) ≤ r) (hns : (np : Int) ≤ s)
    (hp : (rootS ((l0 ++ [e]) :: rest) p).2.2 = true) (hq : (rootS ((l0 ++ [e]) :: rest) q).2.2 = true) (he : (rootS ((l0 ++ [e]) :: rest) p).1 = (rootS ((l0 ++ [e]) :: rest) q).1)
    (hgood : ∀ v, (v = p ∨ v = q) → (rootS ((l0 ++ [e]) :: rest) v).1.kind = 1 → ((rootS ((l0 ++ [e]) :: rest) v).1.num = r ∨ (rootS ((l0 ++ [e]) :: rest) v).1.num = s) → (rootS ((l0 ++ [e]) :: rest) v).1 = v) (t u : Int) :
    askS np ((l0 ++ [e]) :: rest) p t q u = askS np (shB l0 e rest r s p q z) ⟨1, r, 0⟩ t ⟨1, s, 0⟩ u := by
  by_cases hsp : (rootS ((l0 ++ [e]) :: rest) p).1.kind = 1 ∧ ((rootS ((l0 ++ [e]) :: rest) p).1.num = r ∨ (rootS ((l0 ++ [e]) :: rest) p).1.num = s)
  · have e1 := hgood p (.inl rfl) hsp.1 hsp.2
    have e2 := hgood q (.inr rfl) (by rw [← he]; exact hsp.1) (by rw [← he]; exact hsp.2)
    have e3 : p = q := by rw [← e1, he, e2]
    subst e3
    rw [e1] at hsp
    obtain ⟨hk, hn⟩ := hsp
    obtain ⟨pk, pn, pb⟩ := p
    have hk' : pk = 1 := hk
    subst hk'
    have hno : noDef ((l0 ++ [e]) :: rest).flatten pn := by
      rcases hn with h | h
      · have h' : pn = r := h
        rw [h']; exact hr
      · have h' : pn = s := h
        rw [h']; exact hs
    have hlow : ¬ (pn < np) := by
      rcases hn with h | h
      · have h' : pn = r := h
        omega
      · have h' : pn = s := h
        omega
    have hl : askS np ((l0 ++ [e]) :: rest) ⟨1, pn, pb⟩ t ⟨1, pn, pb⟩ u = 1 := by
      have hs1 : stableS np ((l0 ++ [e]) :: rest) ⟨1, pn, pb⟩ = false := by
        unfold stableS
        rw [makerS_no hno]
        simp [hlow]
      unfold askS askR
      have e4 : (ofS np ((l0 ++ [e]) :: rest) ⟨1, pn, pb⟩).v = ⟨1, pn, pb⟩ := e1
      have e5 : (ofS np ((l0 ++ [e]) :: rest) ⟨1, pn, pb⟩).stable = false := by
        show stableS np _ (rootS _ _).1 = false
        rw [e1]; exact hs1
      rw [if_neg (by simp [noneS, e4]), if_pos rfl, if_pos (.inl e5)]
    have hrr : ∀ n, n = r ∨ n = s → ∃ off, RootB (shB l0 e rest r s ⟨1, pn, pb⟩ ⟨1, pn, pb⟩ z) [] 0 true ⟨1, n, 0⟩ (⟨1, pn, pb⟩, off, false) := by
      intro n hn2
      have gr : ∀ y, ((makerS (shB l0 e rest r s ⟨1, pn, pb⟩ ⟨1, pn, pb⟩ z) ⟨1, r, y⟩).bind fun p => gepOf p.1) = some (⟨1, pn, pb⟩, ⟨2, 0, z⟩) := fun y => by rw [shift_r hr]; rfl
      have gs : ∀ y, ((makerS (shB l0 e rest r s ⟨1, pn, pb⟩ ⟨1, pn, pb⟩ z) ⟨1, s, y⟩).bind fun p => gepOf p.1) = some (⟨1, pn, pb⟩, ⟨2, 0, z⟩) := fun y => by rw [shift_s hs hrs]; rfl
      have gp : ∀ m y, m = r ∨ m = s → ((makerS (shB l0 e rest r s ⟨1, pn, pb⟩ ⟨1, pn, pb⟩ z) ⟨1, m, y⟩).bind fun p => gepOf p.1) = some (⟨1, pn, pb⟩, ⟨2, 0, z⟩) := fun m y h => by
        rcases h with rfl | rfl
        · exact gr y
        · exact gs y
      have hpn : pn = r ∨ pn = s := hn
      by_cases h2 : pn = n
      · subst h2
        exact ⟨_, RootB.step (gp pn 0 hn2) rfl (RootB.met (gp pn pb hpn) (by simp))⟩
      · refine ⟨_, RootB.step (gp n 0 hn2) rfl (RootB.step (gp pn pb hpn) (by simp [h2]) (RootB.met (gp pn pb hpn) (by simp)))⟩
    obtain ⟨o1, h1⟩ := hrr r (.inl rfl)
    obtain ⟨o2, h2⟩ := hrr s (.inr rfl)
    have e4 := rootS_of h1
    have e5 := rootS_of h2
    rw [hl]
    unfold askS askR
    have f1 : (ofS np (shB l0 e rest r s ⟨1, pn, pb⟩ ⟨1, pn, pb⟩ z) ⟨1, r, 0⟩).v = ⟨1, pn, pb⟩ := by show (rootS _ _).1 = _; rw [e4]
    have f2 : (ofS np (shB l0 e rest r s ⟨1, pn, pb⟩ ⟨1, pn, pb⟩ z) ⟨1, s, 0⟩).v = ⟨1, pn, pb⟩ := by show (rootS _ _).1 = _; rw [e5]
    have f3 : (ofS np (shB l0 e rest r s ⟨1, pn, pb⟩ ⟨1, pn, pb⟩ z) ⟨1, r, 0⟩).known = false := by show (rootS _ _).2.2 = _; rw [e4]
    rw [if_neg (by simp [noneS, f1, f2]), if_pos (by rw [f1, f2]), if_pos (.inr (.inl f3))]
  · have hk1 : (rootR ((l0 ++ [e]) :: rest) p).2.2 = true := hp
    have hk2 : (rootR ((l0 ++ [e]) :: rest) q).2.2 = true := hq
    have e1 : rootS (shB l0 e rest r s p q z) p = rootS ((l0 ++ [e]) :: rest) p := by
      unfold rootS
      rw [rootR_eq (shift_root hr hs (rootB_root (bs := (l0 ++ [e]) :: rest) p) hk1 hsp)]
    have e2 : rootS (shB l0 e rest r s p q z) q = rootS ((l0 ++ [e]) :: rest) q := by
      unfold rootS
      rw [rootR_eq (shift_root hr hs (rootB_root (bs := (l0 ++ [e]) :: rest) q) hk2 (by rw [he] at hsp; exact hsp))]
    have g1 := root_gep (bs := shB l0 e rest r s p q z) (r := r) (z := 0) (i := 0) (fun y => shift_r hr y) (gep_gep r p z) rfl (by rw [e1]; exact hp)
    have g2 := root_gep (bs := shB l0 e rest r s p q z) (r := s) (z := 0) (i := 0) (fun y => shift_s hs hrs y) (gep_gep s q z) rfl (by rw [e2]; exact hq)
    rw [e1] at g1
    rw [e2, ← he] at g2
    have hv : ∀ v : Opd, ¬ (v.kind = 1 ∧ (v.num = r ∨ v.num = s)) → makerS (shB l0 e rest r s p q z) v = makerS ((l0 ++ [e]) :: rest) v := fun v h => shift_mk fun hk => ⟨fun e1 => h ⟨hk, .inl e1⟩, fun e1 => h ⟨hk, .inr e1⟩⟩
    have a1 : ∀ v : Opd, ¬ (v.kind = 1 ∧ (v.num = r ∨ v.num = s)) → stableS np (shB l0 e rest r s p q z) v = stableS np ((l0 ++ [e]) :: rest) v := fun v h => by unfold stableS; rw [hv v h]
    unfold askS askR
    have f1 : (ofS np (shB l0 e rest r s p q z) ⟨1, r, 0⟩).v = (ofS np ((l0 ++ [e]) :: rest) p).v := by show (rootS _ _).1 = (rootS _ _).1; rw [g1]
    have f2 : (ofS np (shB l0 e rest r s p q z) ⟨1, s, 0⟩).v = (ofS np ((l0 ++ [e]) :: rest) p).v := by show (rootS _ _).1 = (rootS _ _).1; rw [g2]
    have f3 : (ofS np ((l0 ++ [e]) :: rest) q).v = (ofS np ((l0 ++ [e]) :: rest) p).v := he.symm
    have f4 : (ofS np (shB l0 e rest r s p q z) ⟨1, r, 0⟩).stable = (ofS np ((l0 ++ [e]) :: rest) p).stable := by
      show stableS np _ (rootS _ _).1 = stableS np _ (rootS _ _).1
      rw [g1]
      exact a1 _ hsp
    have f5 : (ofS np (shB l0 e rest r s p q z) ⟨1, r, 0⟩).known = true := by show (rootS _ _).2.2 = true; rw [g1]
    have f6 : (ofS np (shB l0 e rest r s p q z) ⟨1, s, 0⟩).known = true := by show (rootS _ _).2.2 = true; rw [g2]
    have f7 : (ofS np ((l0 ++ [e]) :: rest) p).known = true := hp
    have f8 : (ofS np ((l0 ++ [e]) :: rest) q).known = true := hq
    have f9 : (ofS np (shB l0 e rest r s p q z) ⟨1, r, 0⟩).off = wrap64 ((ofS np ((l0 ++ [e]) :: rest) p).off + wrap64 z) := by show (rootS _ _).2.1 = wrap64 ((rootS _ _).2.1 + wrap64 z); rw [g1]
    have f10 : (ofS np (shB l0 e rest r s p q z) ⟨1, s, 0⟩).off = wrap64 ((ofS np ((l0 ++ [e]) :: rest) q).off + wrap64 z) := by show (rootS _ _).2.1 = wrap64 ((rootS _ _).2.1 + wrap64 z); rw [g2]
    unfold noneS
    rw [f1, f2, f3, f4, f5, f6, f7, f8, f9, f10, apart_shift]
    simp
end
/-- of a right function: a root that is no register that was made or is a parameter is the operand itself -/
theorem root_opd {bs : List (List Ins)} {met : List Int} {off : Int} {k : Bool} {v : Opd} {o : Opd × Int × Bool} (h : RootB bs met off k v o) : o.1 = v ∨ ∃ x a rest, x ∈ bs.flatten ∧ x.args = a :: rest ∧ a = o.1 := by
  induction h with
  | stop => exact .inl rfl
  | met => exact .inl rfl
  | @step met off k v a b o h hm hrr ih =>
    right
    rcases ih with ih | ih
    · cases hmk : makerS bs v with
      | none => rw [hmk] at h; cases h
      | some p =>
        rw [hmk] at h
        obtain ⟨-, h2, -⟩ := makerS_mem (ins := p.1) (i := p.2) hmk
        have h3 : gepOf p.1 = some (a, b) := h
        unfold gepOf at h3
        split at h3
        · split at h3
          · rename_i a' b' l' hargs
            cases h3
            exact ⟨p.1, _, _, h2, hargs, ih.symm⟩
          · cases h3
        · cases h3
    · exact ih
theorem right_root {m : Mod} {f : Fun} (h : FunRight m f) {r s : Int} (hr : noDef f.blocks.flatten r) (hs : noDef f.blocks.flatten s) (hnr : (f.params.length : Int) ≤ r) (hns : (f.params.length : Int) ≤ s) (v : Opd)
    (hk : (rootS f.blocks v).1.kind = 1) (hn : (rootS f.blocks v).1.num = r ∨ (rootS f.blocks v).1.num = s) : (rootS f.blocks v).1 = v := by
  have e : (rootS f.blocks v).1 = (rootR f.blocks v).1 := rfl
  rw [e] at hk hn ⊢
  rcases root_opd (rootB_root (bs := f.blocks) v) with h1 | ⟨x, a, rest, hx, hargs, ha⟩
  · exact h1
  · exfalso
    obtain ⟨blk, h2, h3⟩ := List.mem_flatten.1 hx
    obtain ⟨b, hb⟩ := List.mem_iff_getElem?.1 h2
    obtain ⟨j, hj⟩ := List.mem_iff_getElem?.1 h3
    have h4 := allAt_iff.1 h.2.2.2.1 b j blk x hb hj 0 a (by rw [hargs]; rfl)
    rw [← ha] at hk hn
    unfold OpdOk at h4
    rw [if_pos hk] at h4
    have h5 := h4.2.2.1
    apply h5
    unfold typeS
    have key : ∀ n : Int, noDef f.blocks.flatten n → (f.params.length : Int) ≤ n → (if n < 0 then 0 else if n < f.params.length then f.params.getD n.toNat 0 else match f.blocks.flatten.find? (fun x => defs x n) with | some x => iresult x.op x.ty | none => 0) = 0 := fun n h1 h2 => by
      rw [if_neg (by omega), if_neg (by omega), find_none h1]
    rcases hn with h6 | h6
    · rw [h6]; exact key r hr hnr
    · rw [h6]; exact key s hs hns
end Go.Proofs.Ytamjcafjdioidaa
