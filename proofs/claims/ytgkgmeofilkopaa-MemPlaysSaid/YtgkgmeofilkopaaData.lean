/- The Go program's plain data, as Lean structures; no program is in sight. No condition. -/
namespace Go.Proofs.Ytgkgmeofilkopaa

structure Val where
  kind : Int
  bits : Int
  block : Int
  off : Int
  deriving DecidableEq, Inhabited

structure Byt where
  kind : Int
  bits : Int
  block : Int
  off : Int
  i : Int
  deriving DecidableEq, Inhabited

structure Evt where
  ext : Int
  args : List Val
  vars : List (List Byt)
  deriving Inhabited

structure Outc where
  status : Int
  ret : Val
  events : List Evt
  vars : List (List Byt)
  steps : Int
  deriving Inhabited

def Val.eqb (x y : Val) : Bool := x.kind == y.kind && x.bits == y.bits && x.block == y.block && x.off == y.off
def Byt.eqb (x y : Byt) : Bool := x.kind == y.kind && x.bits == y.bits && x.block == y.block && x.off == y.off && x.i == y.i
theorem Val.eqb_iff {x y : Val} : x.eqb y = true ↔ x = y := by cases x; cases y; simp [Val.eqb, and_assoc]
theorem Byt.eqb_iff {x y : Byt} : x.eqb y = true ↔ x = y := by cases x; cases y; simp [Byt.eqb, and_assoc]

/-- refine.Value -/
def rvalue (v w : Val) : Bool := if v.kind == 0 then true else if v.kind == 3 then w.kind != 0 else v.eqb w
/-- refine.Byte -/
def rbyte (b c : Byt) : Bool := if b.kind == 0 then true else if b.kind == 3 then c.kind == 3 || c.kind == 1 else b.eqb c

/-- does p hold below n? -/
def allLt (n : Nat) (p : Nat → Bool) : Bool := (List.range n).all p
theorem allLt_iff {n : Nat} {p : Nat → Bool} : allLt n p = true ↔ ∀ i, i < n → p i = true := by simp [allLt]
theorem allLt_true {n : Nat} {p : Nat → Bool} (h : ∀ i, i < n → p i = true) : allLt n p = true := allLt_iff.2 h
theorem allLt_false {n i : Nat} {p : Nat → Bool} (hi : i < n) (h : p i = false) : allLt n p = false := by
  rw [Bool.eq_false_iff]; intro hh; rw [allLt_iff.1 hh i hi] at h; cases h

theorem upto_succ {p : Nat → Bool} {k : Nat} (h : ∀ j, j < k → p j = true) (hk : p k = true) : ∀ j, j < k + 1 → p j = true := fun j hj => by
  rcases Nat.lt_succ_iff_lt_or_eq.1 hj with h1 | rfl
  · exact h j h1
  · exact hk

/-- latheref12.Bytes' inner loop -/
def rbytes (a b : List Byt) : Bool := a.length == b.length && allLt a.length fun i => rbyte (a.getD i default) (b.getD i default)
/-- refine.vars, latheref12.Bytes -/
def rvars (a b : List (List Byt)) : Bool := a.length == b.length && allLt a.length fun i => rbytes (a.getD i default) (b.getD i default)

theorem rbytes_at {x y : List Byt} {m : Nat} {p q : Byt} (hm : m < x.length) (hp : x[m]? = some p) (hq : y[m]? = some q) (h : rbyte p q = false) : rbytes x y = false :=
  Bool.and_eq_false_iff.2 (.inr (allLt_false hm (by simpa [List.getD, hp, hq] using h)))
theorem rvars_at {x y : List (List Byt)} {m : Nat} {p q : List Byt} (hm : m < x.length) (hp : x[m]? = some p) (hq : y[m]? = some q) (h : rbytes p q = false) : rvars x y = false :=
  Bool.and_eq_false_iff.2 (.inr (allLt_false hm (by simpa [List.getD, hp, hq] using h)))
theorem rbytes_all {x y : List Byt} (hl : x.length = y.length) (h : ∀ j, j < x.length → rbyte (x.getD j default) (y.getD j default) = true) : rbytes x y = true := by
  rw [rbytes, Bool.and_eq_true]; exact ⟨by simpa using hl, allLt_true h⟩
theorem rvars_all {x y : List (List Byt)} (hl : x.length = y.length) (h : ∀ j, j < x.length → rbytes (x.getD j default) (y.getD j default) = true) : rvars x y = true := by
  rw [rvars, Bool.and_eq_true]; exact ⟨by simpa using hl, allLt_true h⟩

/-- a prefix of rows -/
def rbytesTo (k : Nat) (a b : List Byt) : Bool := a.length == b.length && allLt k fun i => rbyte (a.getD i default) (b.getD i default)
def rvarsTo (k : Nat) (a b : List (List Byt)) : Bool := a.length == b.length && allLt k fun i => rbytes (a.getD i default) (b.getD i default)
def rvals (a b : List Val) : Bool := a.length == b.length && allLt a.length fun i => rvalue (a.getD i default) (b.getD i default)
def rvalsTo (k : Nat) (a b : List Val) : Bool := a.length == b.length && allLt k fun i => rvalue (a.getD i default) (b.getD i default)

theorem allLt_zero {p : Nat → Bool} : allLt 0 p = true := allLt_true fun _ hi => absurd hi (Nat.not_lt_zero _)
theorem allLt_succ {k : Nat} {p : Nat → Bool} : allLt (k + 1) p = (allLt k p && p k) := by
  rw [Bool.eq_iff_iff, Bool.and_eq_true, allLt_iff, allLt_iff]
  exact ⟨fun h => ⟨fun i hi => h i (by omega), h k (by omega)⟩, fun h => upto_succ h.1 h.2⟩
theorem allLt_le {k n : Nat} {p : Nat → Bool} (hk : k ≤ n) (h : allLt k p = false) : allLt n p = false := by
  rw [Bool.eq_false_iff] at h ⊢
  exact fun hh => h (allLt_true fun i hi => allLt_iff.1 hh i (by omega))

theorem rvals_at {x y : List Val} {m : Nat} {p q : Val} (hm : m < x.length) (hp : x[m]? = some p) (hq : y[m]? = some q) (h : rvalue p q = false) : rvals x y = false :=
  Bool.and_eq_false_iff.2 (.inr (allLt_false hm (by simpa [List.getD, hp, hq] using h)))
theorem rvals_all {x y : List Val} (hl : x.length = y.length) (h : ∀ j, j < x.length → rvalue (x.getD j default) (y.getD j default) = true) : rvals x y = true := by
  rw [rvals, Bool.and_eq_true]; exact ⟨by simpa using hl, allLt_true h⟩

/-- refine.event, latheref12.Event -/
def revent (a b : Evt) : Bool := a.ext == b.ext && rvals a.args b.args && rvars a.vars b.vars
def reventsTo (k : Nat) (a b : List Evt) : Bool := allLt k fun i => revent (a.getD i default) (b.getD i default)
/-- refine.Refines -/
def rearly (p : Outc) : Bool := p.status == 2 || p.status == 5
def rrefines (o p : Outc) : Bool :=
  if o.status == 4 then true
  else if !reventsTo (min o.events.length p.events.length) o.events p.events then false
  else if p.status == 4 then false
  else if o.status == 0 && p.status == 0 then o.events.length == p.events.length && rvalue o.ret p.ret && rvars o.vars p.vars
  else if o.status == 0 then rearly p && decide (p.events.length ≤ o.events.length)
  else if o.status == 1 || o.status == 3 || o.status == 5 then rearly p || decide (o.events.length ≤ p.events.length)
  else true

theorem Val.eqb_refl (x : Val) : x.eqb x = true := Val.eqb_iff.2 rfl
theorem Byt.eqb_refl (x : Byt) : x.eqb x = true := Byt.eqb_iff.2 rfl
theorem rvalue_refl (v : Val) : rvalue v v = true := by
  unfold rvalue; split
  · rfl
  · split
    · rename_i h0 _; simpa [bne] using h0
    · exact Val.eqb_refl v
theorem rbyte_refl (b : Byt) : rbyte b b = true := by
  unfold rbyte; split
  · rfl
  · split
    · rename_i h; simp [beq_iff_eq.1 h]
    · exact Byt.eqb_refl b
theorem rvalue_trans {u v w : Val} (h : rvalue u v = true) (k : rvalue v w = true) : rvalue u w = true := by
  unfold rvalue at *
  by_cases h0 : u.kind = 0
  · simp [h0]
  · by_cases h3 : u.kind = 3
    · simp [h3, bne] at h ⊢
      rw [if_neg (by simpa using h)] at k
      by_cases v3 : v.kind = 3
      · simpa [v3, bne] using k
      · rw [if_neg (by simpa using v3)] at k
        rw [← Val.eqb_iff.1 k]; exact h
    · rw [if_neg (by simpa using h0), if_neg (by simpa using h3)] at h
      rw [Val.eqb_iff.1 h]; exact k
theorem rbyte_trans {u v w : Byt} (h : rbyte u v = true) (k : rbyte v w = true) : rbyte u w = true := by
  unfold rbyte at *
  by_cases h0 : u.kind = 0
  · simp [h0]
  · by_cases h3 : u.kind = 3
    · simp [h3] at h ⊢
      rcases h with h | h
      · simpa [h] using k
      · simp [h] at k
        have := Byt.eqb_iff.1 k
        rw [← this]; exact .inr h
    · rw [if_neg (by simpa using h0), if_neg (by simpa using h3)] at h
      rw [Byt.eqb_iff.1 h]; exact k
theorem rbytes_refl (b : List Byt) : rbytes b b = true := rbytes_all rfl fun _ _ => rbyte_refl _
theorem rvars_refl (b : List (List Byt)) : rvars b b = true := rvars_all rfl fun _ _ => rbytes_refl _
theorem rvals_refl (b : List Val) : rvals b b = true := rvals_all rfl fun _ _ => rvalue_refl _
theorem revent_refl (e : Evt) : revent e e = true := by simp [revent, rvals_refl, rvars_refl]
theorem rrefines_refl (o : Outc) : rrefines o o = true := by
  have h : reventsTo (min o.events.length o.events.length) o.events o.events = true := allLt_true fun _ _ => revent_refl _
  unfold rrefines
  rw [h, rvalue_refl, rvars_refl]
  by_cases h4 : o.status = 4
  · simp [h4]
  · by_cases h0 : o.status = 0 <;> simp [h4, h0]

end Go.Proofs.Ytgkgmeofilkopaa
