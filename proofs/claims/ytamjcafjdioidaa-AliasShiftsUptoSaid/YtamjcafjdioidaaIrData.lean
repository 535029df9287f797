/- The Go program's modules, as Lean structures, and what layer 2's functions answer; no program is in sight. No condition. -/
namespace Go.Proofs.Ytamjcafjdioidaa

structure Opd where
  kind : Int
  num : Int
  bits : Int
  deriving DecidableEq, Inhabited

structure Ins where
  op : Int
  reg : Int
  ty : Int
  num : Int
  flags : Int
  args : List Opd
  to : List Int
  deriving DecidableEq, Inhabited

structure Fun where
  name : ByteArray
  params : List Int
  ret : Int
  blocks : List (List Ins)
  deriving DecidableEq, Inhabited

structure Vr where
  name : ByteArray
  size : Int
  deriving DecidableEq, Inhabited

structure Ext where
  name : ByteArray
  params : List Int
  ret : Int
  deriving DecidableEq, Inhabited

structure Mod where
  vars : List Vr
  exts : List Ext
  funcs : List Fun
  deriving DecidableEq, Inhabited

/-- ir.Result -/
def iresult (op ty : Int) : Int := if 14 ≤ op ∧ op ≤ 19 then 1 else if op = 26 ∨ op = 29 then 65 else if op = 28 ∨ op < 1 ∨ 30 < op then 0 else ty
/-- ir.Ends -/
def iends (op : Int) : Bool := decide (31 ≤ op ∧ op ≤ 34)
/-- ir.Idle -/
def iidle (op : Int) : Bool := decide (1 ≤ op ∧ op ≤ 29 ∧ op ≠ 28)
/-- ir.Calm -/
def icalm (op : Int) : Bool := decide (1 ≤ op ∧ op ≤ 29 ∧ op ≠ 28 ∧ ¬ (4 ≤ op ∧ op ≤ 7) ∧ ¬ (25 ≤ op ∧ op ≤ 27))

/-- the instructions ahead of place (i, j) -/
def before (bs : List (List Ins)) (i j : Nat) : List Ins := (bs.take i).flatten ++ (bs.getD i []).take j
theorem before_zero (bs : List (List Ins)) : before bs 0 0 = [] := by simp [before]
theorem take_snoc {α : Type} {l : List α} {k : Nat} {x : α} (h : l[k]? = some x) : l.take (k + 1) = l.take k ++ [x] := by
  obtain ⟨hk, rfl⟩ := List.getElem?_eq_some_iff.1 h
  exact List.take_succ_eq_append_getElem hk
theorem getD_nil {bs : List (List Ins)} {i : Nat} {x : List Ins} (h : bs[i]? = some x) : bs.getD i [] = x := by simp [List.getD, h]
theorem before_step {bs : List (List Ins)} {i j : Nat} {x : List Ins} {ins : Ins} (hx : bs[i]? = some x) (hi : x[j]? = some ins) : before bs i (j + 1) = before bs i j ++ [ins] := by
  unfold before
  rw [getD_nil hx, take_snoc hi, List.append_assoc]
theorem before_next {bs : List (List Ins)} {i : Nat} {x : List Ins} (hx : bs[i]? = some x) : before bs i x.length = before bs (i + 1) 0 := by
  unfold before
  rw [getD_nil hx, take_snoc hx, List.take_length, List.flatten_append, List.take_zero, List.append_nil]
  simp only [List.flatten_cons, List.flatten_nil, List.append_nil]
theorem before_end (bs : List (List Ins)) : before bs bs.length 0 = bs.flatten := by simp [before]
theorem before_prefix {bs : List (List Ins)} {i j : Nat} : ∃ r, before bs i j ++ r = bs.flatten := by
  refine ⟨(bs.getD i []).drop j ++ (bs.drop (i + 1)).flatten, ?_⟩
  have h : (bs.take i).flatten ++ ((bs.getD i []) ++ (bs.drop (i + 1)).flatten) = bs.flatten := by
    rcases Nat.lt_or_ge i bs.length with hi | hi
    · have e : bs = bs.take i ++ bs[i] :: bs.drop (i + 1) := by rw [← List.drop_eq_getElem_cons hi, List.take_append_drop]
      have g : bs.getD i [] = bs[i] := by simp [List.getD, hi]
      rw [g]
      have e2 := congrArg List.flatten e
      rw [List.flatten_append, List.flatten_cons] at e2
      exact e2.symm
    · have g : bs.getD i [] = [] := by simp [List.getD, hi]
      rw [g, List.take_of_length_le hi, List.drop_of_length_le (by omega)]
      simp
  rw [← h, before, List.append_assoc, ← List.append_assoc ((bs.getD i []).take j), List.take_append_drop]

/-- how many operands are the register -/
def usesIn (l : List Opd) (reg : Int) : Nat := (l.filter fun v => v.kind == 1 && v.num == reg).length
def usesL (l : List Ins) (reg : Int) : Nat := (l.map fun x => usesIn x.args reg).sum
/-- ir.Uses -/
def iuses (f : Fun) (reg : Int) : Nat := usesL f.blocks.flatten reg
def argsL (l : List Ins) : Nat := (l.map fun x => x.args.length).sum
theorem usesIn_le (l : List Opd) (reg : Int) : usesIn l reg ≤ l.length := List.length_filter_le _ _
theorem usesL_nil (reg : Int) : usesL [] reg = 0 := rfl
theorem usesL_snoc (l : List Ins) (x : Ins) (reg : Int) : usesL (l ++ [x]) reg = usesL l reg + usesIn x.args reg := by simp [usesL]
theorem usesL_append (l r : List Ins) (reg : Int) : usesL (l ++ r) reg = usesL l reg + usesL r reg := by simp [usesL]
theorem argsL_append (l r : List Ins) : argsL (l ++ r) = argsL l + argsL r := by simp [argsL]
theorem usesL_le : ∀ (l : List Ins) (reg : Int), usesL l reg ≤ argsL l
  | [], _ => Nat.le_refl _
  | x :: l, reg => by
    have := usesL_le l reg
    have := usesIn_le x.args reg
    simp only [usesL, argsL, List.map_cons, List.sum_cons] at *
    omega
theorem usesIn_take (l : List Opd) (reg : Int) (k : Nat) {v : Opd} (h : l[k]? = some v) : usesIn (l.take (k + 1)) reg = usesIn (l.take k) reg + if v.kind = 1 ∧ v.num = reg then 1 else 0 := by
  rw [take_snoc h]
  unfold usesIn
  rw [List.filter_append, List.length_append]
  congr 1
  by_cases hc : v.kind = 1 ∧ v.num = reg
  · rw [if_pos hc, List.filter_cons, if_pos (by simpa using hc)]; rfl
  · rw [if_neg hc, List.filter_cons, if_neg (by simpa using hc)]; rfl
theorem usesIn_take_le (l : List Opd) (reg : Int) (k : Nat) : usesIn (l.take k) reg ≤ l.length := Nat.le_trans (usesIn_le _ _) (List.length_take_le' _ _)

theorem argsL_before {bs : List (List Ins)} {i j : Nat} {x : List Ins} {ins : Ins} (hx : bs[i]? = some x) (hi : x[j]? = some ins) : argsL (before bs i j) + ins.args.length ≤ argsL bs.flatten := by
  obtain ⟨r, hr⟩ := @before_prefix bs i (j + 1)
  rw [before_step hx hi] at hr
  rw [← hr, argsL_append, argsL_append]
  have : argsL [ins] = ins.args.length := by simp [argsL]
  omega

/-- does an operand use the register? does an instruction name it? -/
def usesReg (v : Opd) (r : Int) : Bool := v.kind == 1 && v.num == r
def names (x : Ins) (r : Int) : Bool := x.reg == r || x.args.any fun v => usesReg v r
def namesL (l : List Ins) (r : Int) : Bool := l.any fun x => names x r
theorem namesL_snoc (l : List Ins) (x : Ins) (r : Int) : namesL (l ++ [x]) r = (namesL l r || names x r) := by simp [namesL]
theorem any_take {l : List Opd} {k : Nat} {v : Opd} (h : l[k]? = some v) (r : Int) : (l.take (k + 1)).any (fun v => usesReg v r) = ((l.take k).any (fun v => usesReg v r) || usesReg v r) := by
  rw [take_snoc h]; simp
/-- instructions and operands -/
def partsL (l : List Ins) : Nat := (l.map fun x => 1 + x.args.length).sum
theorem partsL_append (l r : List Ins) : partsL (l ++ r) = partsL l + partsL r := by simp [partsL]
theorem partsL_before {bs : List (List Ins)} {i j : Nat} {x : List Ins} {ins : Ins} (hx : bs[i]? = some x) (hi : x[j]? = some ins) : partsL (before bs i j) + (1 + ins.args.length) ≤ partsL bs.flatten := by
  obtain ⟨r, hr⟩ := @before_prefix bs i (j + 1)
  rw [before_step hx hi] at hr
  rw [← hr, partsL_append, partsL_append]
  have : partsL [ins] = 1 + ins.args.length := by simp [partsL]
  omega
theorem argsL_le_partsL : ∀ l : List Ins, argsL l ≤ partsL l
  | [] => Nat.le_refl _
  | x :: l => by
    have := argsL_le_partsL l
    simp only [argsL, partsL, List.map_cons, List.sum_cons] at *
    omega
theorem length_le_partsL : ∀ l : List Ins, l.length ≤ partsL l
  | [] => Nat.le_refl _
  | x :: l => by
    have := length_le_partsL l
    simp only [partsL, List.map_cons, List.sum_cons, List.length_cons] at *
    omega

theorem pigeon : ∀ (k : Nat) (L : List Int) (n : Int), L.length ≤ k → (∀ i : Nat, i < k + 1 → n + i ∈ L) → False
  | 0, L, n, hl, h => by
    have h0 := h 0 (by omega)
    have : L = [] := List.eq_nil_of_length_eq_zero (by omega)
    subst this
    cases h0
  | k + 1, L, n, hl, h => by
    have h0 : n ∈ L := by simpa using h 0 (by omega)
    refine pigeon k (L.erase n) (n + 1) (by rw [List.length_erase_of_mem h0]; omega) (fun i hi => ?_)
    have h1 := h (i + 1) (by omega)
    have h2 : n + ((i + 1 : Nat) : Int) ≠ n := by omega
    have h3 := (List.mem_erase_of_ne h2).2 h1
    have h4 : n + 1 + (i : Int) = n + ((i + 1 : Nat) : Int) := by omega
    rw [h4]
    exact h3
def namesOf (x : Ins) : List Int := x.reg :: (x.args.map fun v => v.num)
theorem names_mem {x : Ins} {r : Int} (h : names x r = true) : r ∈ namesOf x := by
  simp only [names, Bool.or_eq_true, beq_iff_eq, List.any_eq_true, usesReg, Bool.and_eq_true] at h
  rcases h with h | ⟨v, hv, _, h⟩
  · simp [namesOf, h]
  · simp only [namesOf, List.mem_cons, List.mem_map]
    exact .inr ⟨v, hv, h⟩
theorem namesL_mem {l : List Ins} {r : Int} (h : namesL l r = true) : r ∈ l.flatMap namesOf := by
  simp only [namesL, List.any_eq_true] at h
  obtain ⟨x, hx, h⟩ := h
  exact List.mem_flatMap.2 ⟨x, hx, names_mem h⟩
theorem namesOf_length : ∀ l : List Ins, (l.flatMap namesOf).length = partsL l
  | [] => rfl
  | x :: l => by
    have := namesOf_length l
    simp only [List.flatMap_cons, List.length_append, this, partsL, List.map_cons, List.sum_cons, namesOf, List.length_cons, List.length_map]
    omega
/-- F is the least number from n on that no instruction names -/
def IsFresh (l : List Ins) (n F : Nat) : Prop := n ≤ F ∧ namesL l F = false ∧ ∀ r : Nat, n ≤ r → r < F → namesL l r = true
theorem fresh_unique {l : List Ins} {n F G : Nat} (h : IsFresh l n F) (k : IsFresh l n G) : F = G := by
  obtain ⟨h1, h2, h3⟩ := h
  obtain ⟨k1, k2, k3⟩ := k
  rcases Nat.lt_trichotomy F G with hlt | rfl | hlt
  · rw [k3 F h1 hlt] at h2; cases h2
  · rfl
  · rw [h3 G k1 hlt] at k2; cases k2
theorem fresh_search (l : List Ins) (n : Nat) : ∀ k : Nat, (∃ F, F < n + k ∧ IsFresh l n F) ∨ ∀ r : Nat, n ≤ r → r < n + k → namesL l r = true
  | 0 => .inr (fun r h1 h2 => by omega)
  | k + 1 => by
    rcases fresh_search l n k with ⟨F, hF, h⟩ | h
    · exact .inl ⟨F, by omega, h⟩
    · cases hk : namesL l ((n + k : Nat) : Int) with
      | false => exact .inl ⟨n + k, by omega, by omega, hk, h⟩
      | true =>
        refine .inr (fun r h1 h2 => ?_)
        rcases Nat.lt_or_ge r (n + k) with hr | hr
        · exact h r h1 hr
        · have : r = n + k := by omega
          rw [this]; exact hk
theorem fresh_exists (l : List Ins) (n : Nat) : ∃ F, F ≤ n + partsL l ∧ IsFresh l n F := by
  rcases fresh_search l n (partsL l + 1) with ⟨F, hF, h⟩ | h
  · exact ⟨F, by omega, h⟩
  · refine (pigeon (partsL l) (l.flatMap namesOf) n (by rw [namesOf_length]; exact Nat.le_refl _) (fun i hi => ?_)).elim
    have := namesL_mem (h (n + i) (by omega) (by omega))
    have e : ((n + i : Nat) : Int) = (n : Int) + i := by omega
    rw [← e]
    exact this

/-- does the instruction make the register? -/
def defs (x : Ins) (r : Int) : Bool := x.reg == r && iresult x.op x.ty != 0
def noDef (l : List Ins) (r : Int) : Prop := ∀ x, x ∈ l → defs x r = false
theorem noDef_nil (r : Int) : noDef [] r := fun x h => by cases h
theorem noDef_snoc {l : List Ins} {x : Ins} {r : Int} (h : noDef l r) (hx : defs x r = false) : noDef (l ++ [x]) r := fun y hy => by
  rcases List.mem_append.1 hy with hy | hy
  · exact h y hy
  · rw [List.mem_singleton.1 hy]; exact hx
/-- the first that makes the register stands at (i, j) -/
def IsDef (bs : List (List Ins)) (r : Int) (i j : Nat) : Prop := ∃ x ins, bs[i]? = some x ∧ x[j]? = some ins ∧ defs ins r = true ∧ noDef (before bs i j) r

end Go.Proofs.Ytamjcafjdioidaa
