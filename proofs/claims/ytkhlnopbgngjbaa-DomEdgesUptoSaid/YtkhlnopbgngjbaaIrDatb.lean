/- Places of instructions, in plain Lean. No condition. -/
import Derived.Test.YtkhlnopbgngjbaaIrData
namespace Go.Proofs.Ytkhlnopbgngjbaa

structure Plc where
  fn : Int
  blk : Int
  pos : Int
  deriving DecidableEq, Inhabited

def rowP (i n : Nat) : List Plc := (List.range n).map fun (j : Nat) => ⟨0, (i : Int), (j : Int)⟩
/-- the places ahead of place (i, j) -/
def beforeP (bs : List (List Ins)) (i j : Nat) : List Plc := ((List.range i).flatMap fun k => rowP k (bs.getD k []).length) ++ rowP i j
theorem beforeP_zero (bs : List (List Ins)) : beforeP bs 0 0 = [] := rfl
theorem beforeP_step (bs : List (List Ins)) (i j : Nat) : beforeP bs i (j + 1) = beforeP bs i j ++ [⟨0, i, j⟩] := by
  unfold beforeP rowP
  rw [List.range_succ, List.map_append, List.append_assoc]
  rfl
theorem beforeP_next {bs : List (List Ins)} {i : Nat} {x : List Ins} (hx : bs[i]? = some x) : beforeP bs i x.length = beforeP bs (i + 1) 0 := by
  unfold beforeP
  rw [List.range_succ, List.flatMap_append, getD_nil hx |>.symm]
  simp [rowP]
theorem beforeP_length {bs : List (List Ins)} : ∀ (i j : Nat), (j = 0 ∨ ∃ x, bs[i]? = some x ∧ j ≤ x.length) → i ≤ bs.length → (beforeP bs i j).length = (before bs i j).length
  | 0, j, hj, _ => by
    rcases hj with rfl | ⟨x, hx, hj⟩
    · rfl
    · unfold before
      rw [getD_nil hx]
      simp [beforeP, rowP]
      omega
  | i + 1, j, hj, hi => by
    obtain ⟨y, hy⟩ : ∃ y, bs[i]? = some y := ⟨_, List.getElem?_eq_getElem (by omega)⟩
    have h0 := beforeP_length i y.length (.inr ⟨y, hy, Nat.le_refl _⟩) (by omega)
    rw [beforeP_next hy, before_next hy] at h0
    rcases hj with rfl | ⟨x, hx, hj⟩
    · exact h0
    · have e1 : (beforeP bs (i + 1) j).length = (beforeP bs (i + 1) 0).length + j := by simp [beforeP, rowP]
      have e2 : (before bs (i + 1) j).length = (before bs (i + 1) 0).length + j := by
        unfold before
        rw [getD_nil hx]
        simp only [List.length_append, List.take_zero, List.length_nil, Nat.add_zero, List.length_take]
        omega
      rw [e1, e2, h0]

end Go.Proofs.Ytkhlnopbgngjbaa
