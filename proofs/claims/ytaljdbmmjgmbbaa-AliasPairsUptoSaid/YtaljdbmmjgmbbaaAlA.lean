/- Roots, kin, who escapes, how two accesses meet: as plain functions, and that the order of the two doesn't matter. No program is in sight. No condition. -/
import Derived.Test.YtaljdbmmjgmbbaaIrData
import Derived.WalkKit
namespace Go.Proofs.Ytaljdbmmjgmbbaa
open Go.RowKit
set_option linter.unusedVariables false

theorem before_mem {bs : List (List Ins)} {i j : Nat} {x : List Ins} {ins : Ins} (hx : bs[i]? = some x) (hi : x[j]? = some ins) : ins ∈ bs.flatten :=
  List.mem_flatten.2 ⟨x, List.mem_of_getElem? hx, List.mem_of_getElem? hi⟩
theorem before_later {bs : List (List Ins)} {i j i' j' : Nat} {x : List Ins} {ins : Ins} (hx : bs[i]? = some x) (hi : x[j]? = some ins) (h : i < i' ∨ i = i' ∧ j < j') : ins ∈ before bs i' j' := by
  unfold before
  rcases h with h | ⟨rfl, h⟩
  · refine List.mem_append_left _ (List.mem_flatten.2 ⟨x, ?_, List.mem_of_getElem? hi⟩)
    exact List.mem_of_getElem? (by rw [List.getElem?_take_of_lt h]; exact hx)
  · refine List.mem_append_right _ ?_
    rw [getD_nil hx]
    exact List.mem_of_getElem? (by rw [List.getElem?_take_of_lt h]; exact hi)
theorem isDef_unique {bs : List (List Ins)} {r : Int} {i j i' j' : Nat} (h : IsDef bs r i j) (h' : IsDef bs r i' j') : i = i' ∧ j = j' := by
  obtain ⟨x, ins, h1, h2, h3, h4⟩ := h
  obtain ⟨x', ins', h1', h2', h3', h4'⟩ := h'
  have a : ¬ (i < i' ∨ i = i' ∧ j < j') := fun hc => by
    have := h4' ins (before_later h1 h2 hc)
    rw [h3] at this; cases this
  have b : ¬ (i' < i ∨ i' = i ∧ j' < j) := fun hc => by
    have := h4 ins' (before_later h1' h2' hc)
    rw [h3'] at this; cases this
  omega
def IsMk (bs : List (List Ins)) (v : Opd) (o : Ins × Nat) : Prop := v.kind = 1 ∧ ∃ j x, bs[o.2]? = some x ∧ x[j]? = some o.1 ∧ IsDef bs v.num o.2 j
theorem isMk_unique {bs : List (List Ins)} {v : Opd} {o o' : Ins × Nat} (h : IsMk bs v o) (h' : IsMk bs v o') : o = o' := by
  obtain ⟨ins, i⟩ := o
  obtain ⟨ins', i'⟩ := o'
  obtain ⟨-, j, x, h1, h2, h3⟩ := h
  obtain ⟨-, j', x', h1', h2', h3'⟩ := h'
  obtain ⟨e1, e2⟩ := isDef_unique h3 h3'
  simp only at e1 e2 h1 h2 h1' h2'
  subst e1 e2
  rw [h1] at h1'
  cases h1'
  rw [h2] at h2'
  cases h2'
  rfl
open Classical in
noncomputable def makerS (bs : List (List Ins)) (v : Opd) : Option (Ins × Nat) := if h : ∃ o, IsMk bs v o then some (Classical.choose h) else none
theorem makerS_some {bs : List (List Ins)} {v : Opd} {i j : Nat} {x : List Ins} {ins : Ins} (hk : v.kind = 1) (hx : bs[i]? = some x) (hi : x[j]? = some ins) (hd : IsDef bs v.num i j) : makerS bs v = some (ins, i) := by
  have h : IsMk bs v (ins, i) := ⟨hk, j, x, hx, hi, hd⟩
  have h' : ∃ o, IsMk bs v o := ⟨_, h⟩
  unfold makerS
  rw [dif_pos h', isMk_unique (Classical.choose_spec h') h]
theorem makerS_kind {bs : List (List Ins)} {v : Opd} (hk : v.kind ≠ 1) : makerS bs v = none := by
  unfold makerS
  rw [dif_neg fun h => hk h.choose_spec.1]
theorem makerS_no {bs : List (List Ins)} {v : Opd} (h : noDef bs.flatten v.num) : makerS bs v = none := by
  unfold makerS
  rw [dif_neg]
  rintro ⟨o, -, j, x, h1, h2, x', ins', h3, h4, h5, -⟩
  have := h ins' (before_mem h3 h4)
  rw [h5] at this; cases this
theorem makerS_mem {bs : List (List Ins)} {v : Opd} {ins : Ins} {i : Nat} (h : makerS bs v = some (ins, i)) : v.kind = 1 ∧ ins ∈ bs.flatten ∧ ins.reg = v.num := by
  unfold makerS at h
  split at h
  · rename_i hh
    have hs := Classical.choose_spec hh
    rw [Option.some.inj h] at hs
    obtain ⟨hk, j, x, h1, h2, x', ins', h3, h4, h5, -⟩ := hs
    simp only at h1 h2 h3
    rw [h1] at h3
    cases h3
    rw [h2] at h4
    cases h4
    refine ⟨hk, before_mem h1 h2, ?_⟩
    unfold defs at h5
    simp only [Bool.and_eq_true, beq_iff_eq] at h5
    exact h5.1
  · cases h

/-- an operand that goes on to its base -/
def gepOf (ins : Ins) : Option (Opd × Opd) := if ins.op = 29 then (match ins.args with | a :: b :: _ => some (a, b) | _ => none) else none
def offAdd (off bits : Int) : Int := wrap64 (off + wrap64 bits)
/-- a root's search: so many rounds at most -/
noncomputable def rootGo (bs : List (List Ins)) : Nat → List Int → Int → Bool → Opd → Opd × Int × Bool
  | 0, _, off, known, v => (v, off, known)
  | g + 1, met, off, known, v => match (makerS bs v).bind fun p => gepOf p.1 with
    | none => (v, off, known)
    | some (a, b) => if met.contains v.num then (v, off, false) else
        rootGo bs g (v.num :: met) (if b.kind = 2 then offAdd off b.bits else off) (known && decide (b.kind = 2)) a
def regsM (bs : List (List Ins)) : List Int := bs.flatten.map Ins.reg
noncomputable def rootR (bs : List (List Ins)) (v : Opd) : Opd × Int × Bool := rootGo bs ((regsM bs).length + 1) [] 0 true v
noncomputable def rootS (bs : List (List Ins)) (v : Opd) : Opd × Int × Bool := ((rootR bs v).1, if (rootR bs v).2.2 then (rootR bs v).2.1 else 0, (rootR bs v).2.2)

/-- who has a register's address, or some bytes further on -/
inductive Kin (l : List Ins) (reg : Int) : Int → Prop
  | self : Kin l reg reg
  | step {i : Ins} {a : Opd} {rest : List Opd} : i ∈ l → i.op = 29 → i.args = a :: rest → a.kind = 1 → Kin l reg a.num → Kin l reg i.reg
def quietS (op : Int) (k : Nat) : Bool := decide (op = 27) || (decide (op = 28) && decide (k = 1)) || (decide (op = 29) && decide (k = 0)) || decide (op = 14) || decide (op = 15)
def Leaks (l : List Ins) (reg : Int) : Prop := ∃ i, i ∈ l ∧ ∃ k v, i.args[k]? = some v ∧ v.kind = 1 ∧ Kin l reg v.num ∧ quietS i.op k = false
open Classical in
noncomputable def escS (bs : List (List Ins)) (reg : Int) : Bool := decide (Leaks bs.flatten reg)

/-- a root, with what is asked of it -/
structure Rt where
  v : Opd
  off : Int
  known : Bool
  alloca : Bool
  stable : Bool
noncomputable def allocaS (bs : List (List Ins)) (v : Opd) : Bool := match makerS bs v with | none => false | some p => p.1.op == 26
noncomputable def stableS (np : Nat) (bs : List (List Ins)) (v : Opd) : Bool := decide (v.kind = 5) || (decide (v.kind = 1) && ((decide (0 ≤ v.num) && decide (v.num < np)) || (match makerS bs v with | none => false | some p => decide (p.2 = 0))))
noncomputable def ofS (np : Nat) (bs : List (List Ins)) (v : Opd) : Rt := ⟨(rootS bs v).1, (rootS bs v).2.1, (rootS bs v).2.2, allocaS bs (rootS bs v).1, stableS np bs (rootS bs v).1⟩
def bytesS (t : Int) : Int := if t = 65 then 8 else if 1 ≤ t ∧ t ≤ 64 then (t + 7) / 8 else 0
def noneS (r : Rt) : Bool := r.v.kind == 4 || r.v.kind == 3
def objS (r : Rt) : Bool := r.v.kind == 5 || r.alloca
/-- how far apart, in 2^64 -/
def apartS (x y : Int) : Int := (y - x) % 18446744073709551616
def meetS (n m d : Int) : Int := if d = 0 ∧ n = m then 2 else if d ≠ 0 ∧ n ≤ d ∧ m ≤ 18446744073709551616 - d then 0 else 1
noncomputable def askR (bs : List (List Ins)) (a b : Rt) (t u : Int) : Int :=
  if noneS a = true ∨ noneS b = true then 0
  else if a.v = b.v then (if a.stable = false ∨ a.known = false ∨ b.known = false then 1 else meetS (bytesS t) (bytesS u) (apartS a.off b.off))
  else if (objS a = true ∧ objS b = true) ∨ (a.alloca = true ∧ escS bs a.v.num = false) ∨ (b.alloca = true ∧ escS bs b.v.num = false) then 0 else 1
noncomputable def askS (np : Nat) (bs : List (List Ins)) (p : Opd) (t : Int) (q : Opd) (u : Int) : Int := askR bs (ofS np bs p) (ofS np bs q) t u

theorem meet_comm (n m : Int) (x y : Int) : meetS n m (apartS x y) = meetS m n (apartS y x) := by
  unfold meetS apartS
  have h1 : (y - x) % 18446744073709551616 = 0 ↔ (x - y) % 18446744073709551616 = 0 := by omega
  have h2 : (y - x) % 18446744073709551616 ≠ 0 → 18446744073709551616 - (y - x) % 18446744073709551616 = (x - y) % 18446744073709551616 := by omega
  generalize (y - x) % 18446744073709551616 = D at h1 h2 ⊢
  generalize (x - y) % 18446744073709551616 = E at h1 h2 ⊢
  (repeat' split) <;> omega
theorem ask_comm (np : Nat) (bs : List (List Ins)) (p : Opd) (t : Int) (q : Opd) (u : Int) : askS np bs p t q u = askS np bs q u p t := by
  unfold askS askR
  by_cases h1 : noneS (ofS np bs p) = true ∨ noneS (ofS np bs q) = true
  · rw [if_pos h1, if_pos h1.symm]
  · rw [if_neg h1, if_neg (show ¬ (noneS (ofS np bs q) = true ∨ noneS (ofS np bs p) = true) from fun h => h1 h.symm)]
    by_cases h2 : (ofS np bs p).v = (ofS np bs q).v
    · rw [if_pos h2, if_pos h2.symm]
      have h3 : (ofS np bs p).stable = (ofS np bs q).stable := by
        show stableS np bs (ofS np bs p).v = stableS np bs (ofS np bs q).v
        rw [h2]
      rw [h3, meet_comm]
      by_cases h4 : (ofS np bs q).stable = false ∨ (ofS np bs p).known = false ∨ (ofS np bs q).known = false
      · rw [if_pos h4, if_pos (by rcases h4 with h | h | h; exact .inl h; exact .inr (.inr h); exact .inr (.inl h))]
      · rw [if_neg h4, if_neg (show ¬ ((ofS np bs q).stable = false ∨ (ofS np bs q).known = false ∨ (ofS np bs p).known = false) by rintro (h | h | h); exact h4 (.inl h); exact h4 (.inr (.inr h)); exact h4 (.inr (.inl h)))]
    · rw [if_neg h2, if_neg (show ¬ (ofS np bs q).v = (ofS np bs p).v from fun h => h2 h.symm)]
      by_cases h5 : (objS (ofS np bs p) = true ∧ objS (ofS np bs q) = true) ∨ ((ofS np bs p).alloca = true ∧ escS bs (ofS np bs p).v.num = false) ∨ ((ofS np bs q).alloca = true ∧ escS bs (ofS np bs q).v.num = false)
      · rw [if_pos h5, if_pos (by rcases h5 with h | h | h; exact .inl h.symm; exact .inr (.inr h); exact .inr (.inl h))]
      · rw [if_neg h5, if_neg (show ¬ ((objS (ofS np bs q) = true ∧ objS (ofS np bs p) = true) ∨ ((ofS np bs q).alloca = true ∧ escS bs (ofS np bs q).v.num = false) ∨ ((ofS np bs p).alloca = true ∧ escS bs (ofS np bs p).v.num = false)) by rintro (h | h | h); exact h5 (.inl h.symm); exact h5 (.inr (.inr h)); exact h5 (.inr (.inl h)))]
theorem meet_range (n m d : Int) : 0 ≤ meetS n m d ∧ meetS n m d ≤ 2 := by
  unfold meetS; split; omega; split <;> omega
theorem ask_range (np : Nat) (bs : List (List Ins)) (p : Opd) (t : Int) (q : Opd) (u : Int) : 0 ≤ askS np bs p t q u ∧ askS np bs p t q u ≤ 2 := by
  unfold askS askR
  have := meet_range (bytesS t) (bytesS u) (apartS (ofS np bs p).off (ofS np bs q).off)
  split
  · omega
  · split
    · split <;> omega
    · split <;> omega
theorem meet_two {n m d : Int} (h : meetS n m d = 2) : d = 0 ∧ n = m := by
  unfold meetS at h
  split at h
  · assumption
  · split at h <;> omega
theorem ask_two {np : Nat} {bs : List (List Ins)} {p q r : Opd} {t u s : Int} (h : askS np bs p t q u = 2) : askS np bs p t r s = askS np bs q u r s := by
  unfold askS at h ⊢
  have h0 := h
  unfold askR at h
  split at h
  · omega
  · rename_i h1
    split at h
    · rename_i h2
      split at h
      · omega
      · rename_i h3
        obtain ⟨h4, h5⟩ := meet_two h
        have h6 : (ofS np bs p).stable = (ofS np bs q).stable := by
          show stableS np bs (ofS np bs p).v = stableS np bs (ofS np bs q).v
          rw [h2]
        have h7 : (ofS np bs p).alloca = (ofS np bs q).alloca := by
          show allocaS bs (ofS np bs p).v = allocaS bs (ofS np bs q).v
          rw [h2]
        have h8 : (ofS np bs p).known = (ofS np bs q).known := by
          cases e1 : (ofS np bs p).known with
          | false => exact (h3 (.inr (.inl e1))).elim
          | true =>
            cases e2 : (ofS np bs q).known with
            | false => exact (h3 (.inr (.inr e2))).elim
            | true => rfl
        have h9 : ∀ z : Int, apartS (ofS np bs p).off z = apartS (ofS np bs q).off z := fun z => by
          unfold apartS at h4 ⊢; omega
        generalize ofS np bs r = c
        unfold askR noneS objS
        rw [h2, h5, h6, h7, h8, h9]
    · rename_i h2
      split at h <;> omega
end Go.Proofs.Ytaljdbmmjgmbbaa
