/- Layer 9: Size, Bytes, Set and Free, in plain Lean and in the heap. No condition. -/
import Derived.Test.YtgkgmeofilkopaaMwJ
namespace Go.Proofs.Ytgkgmeofilkopaa
open Go.RowKit
set_option linter.unusedSimpArgs false
set_option linter.unusedVariables false

def sizeS (bs : MemS) (i : Int) : Int := match bytesAt bs i with
  | none => -1
  | some l => l.length
def bytesS (bs : MemS) (i : Int) : List Byt := (bytesAt bs i).getD []
def setS (bs : MemS) (i at_ b : Int) : MemS × Bool := match bytesAt bs i with
  | none => (bs, false)
  | some l => if 0 ≤ at_ ∧ at_ < l.length then (bs.set i.toNat (some (l.set at_.toNat ⟨1, b, 0, 0, 0⟩)), true) else (bs, false)
def cleanB (i : Int) (b : Byt) : Byt := if b.kind = 2 ∧ b.block = i then zb else b
def cleanTo (i : Int) (j : Nat) (l : List Byt) : List Byt := l.mapIdx fun m b => if m < j then cleanB i b else b
def freeTo (i : Int) (k : Nat) (bs : MemS) : MemS := bs.mapIdx fun m x => if m < k then x.map (List.map (cleanB i)) else x
def freeS (bs : MemS) (i : Int) : MemS := match bytesAt bs i with
  | none => bs
  | some _ => (bs.set i.toNat none).map (Option.map (List.map (cleanB i)))

theorem cleanTo_len (i : Int) (j : Nat) (l : List Byt) : (cleanTo i j l).length = l.length := by simp [cleanTo]
theorem cleanTo_get (i : Int) (j : Nat) (l : List Byt) (m : Nat) : (cleanTo i j l)[m]? = (l[m]?).map fun b => if m < j then cleanB i b else b := by simp [cleanTo]
theorem cleanTo_zero (i : Int) (l : List Byt) : cleanTo i 0 l = l := by
  apply List.ext_getElem?; intro m; rw [cleanTo_get]; simp
theorem cleanTo_full (i : Int) (l : List Byt) : cleanTo i l.length l = l.map (cleanB i) := by
  apply List.ext_getElem?; intro m; rw [cleanTo_get, List.getElem?_map]
  rcases Nat.lt_or_ge m l.length with h | h
  · simp [h]
  · rw [List.getElem?_eq_none h]; rfl
theorem cleanTo_at {i : Int} {j : Nat} {l : List Byt} {b : Byt} (h : l[j]? = some b) : (cleanTo i j l)[j]? = some b := by rw [cleanTo_get, h]; simp
theorem cleanTo_put {i : Int} {j : Nat} {l : List Byt} {b : Byt} (h : l[j]? = some b) (hb : b.kind = 2 ∧ b.block = i) : cleanTo i (j + 1) l = (cleanTo i j l).set j zb := by
  have hj := (List.getElem?_eq_some_iff.1 h).1
  apply List.ext_getElem?; intro m
  rw [List.getElem?_set, cleanTo_get, cleanTo_get, cleanTo_len]
  by_cases c : j = m
  · subst c; rw [if_pos rfl, if_pos hj, h]; simp [cleanB, hb]
  · rw [if_neg c]
    by_cases c2 : m < j
    · simp [c2, show m < j + 1 by omega]
    · simp [c2, show ¬ m < j + 1 by omega]
theorem cleanTo_skip {i : Int} {j : Nat} {l : List Byt} {b : Byt} (h : l[j]? = some b) (hb : ¬ (b.kind = 2 ∧ b.block = i)) : cleanTo i (j + 1) l = cleanTo i j l := by
  apply List.ext_getElem?; intro m
  rw [cleanTo_get, cleanTo_get]
  by_cases c : j = m
  · subst c; rw [h]; simp [cleanB, hb]
  · by_cases c2 : m < j
    · simp [c2, show m < j + 1 by omega]
    · simp [c2, show ¬ m < j + 1 by omega]
theorem okB_zb : ∀ b, b = zb → 0 ≤ b.bits ∧ b.bits ≤ 255 := by rintro b rfl; exact ⟨Int.le_refl _, by show (0 : Int) ≤ 255; decide⟩
theorem okB_set {l : List Byt} {k : Nat} {b : Byt} (h : OkB l) (hb : 0 ≤ b.bits ∧ b.bits ≤ 255) : OkB (l.set k b) := by
  intro x hx
  rcases List.mem_or_eq_of_mem_set hx with hx | rfl
  · exact h x hx
  · exact hb
theorem okB_clean {i : Int} {j : Nat} {l : List Byt} (h : OkB l) : OkB (cleanTo i j l) := by
  intro x hx
  obtain ⟨m, hm⟩ := List.mem_iff_getElem?.1 hx
  rw [cleanTo_get] at hm
  cases hl : l[m]? with
  | none => rw [hl] at hm; cases hm
  | some b =>
    rw [hl] at hm
    have hb := h b (List.mem_of_getElem? hl)
    simp only [Option.map_some, Option.some.injEq] at hm
    subst hm
    split
    · unfold cleanB; split
      · exact okB_zb _ rfl
      · exact hb
    · exact hb
theorem freeTo_len (i : Int) (k : Nat) (bs : MemS) : (freeTo i k bs).length = bs.length := by simp [freeTo]
theorem freeTo_get (i : Int) (k : Nat) (bs : MemS) (m : Nat) : (freeTo i k bs)[m]? = (bs[m]?).map fun x => if m < k then x.map (List.map (cleanB i)) else x := by simp [freeTo]
theorem freeTo_zero (i : Int) (bs : MemS) : freeTo i 0 bs = bs := by
  apply List.ext_getElem?; intro m; rw [freeTo_get]; simp
theorem freeTo_full (i : Int) (bs : MemS) : freeTo i bs.length bs = bs.map (Option.map (List.map (cleanB i))) := by
  apply List.ext_getElem?; intro m; rw [freeTo_get, List.getElem?_map]
  rcases Nat.lt_or_ge m bs.length with h | h
  · simp [h]
  · rw [List.getElem?_eq_none h]; rfl
theorem freeTo_at {i : Int} {k : Nat} {bs : MemS} {x : Option (List Byt)} (h : bs[k]? = some x) : (freeTo i k bs)[k]? = some x := by rw [freeTo_get, h]; simp
theorem freeTo_none {i : Int} {k : Nat} {bs : MemS} (h : bs[k]? = some none) : freeTo i (k + 1) bs = freeTo i k bs := by
  apply List.ext_getElem?; intro m
  rw [freeTo_get, freeTo_get]
  by_cases c : k = m
  · subst c; rw [h]; simp
  · by_cases c2 : m < k
    · simp [c2, show m < k + 1 by omega]
    · simp [c2, show ¬ m < k + 1 by omega]
theorem freeTo_set {i : Int} {k : Nat} {bs : MemS} {l : List Byt} (h : bs[k]? = some (some l)) : (freeTo i k bs).set k (some (cleanTo i l.length l)) = freeTo i (k + 1) bs := by
  have hj := (List.getElem?_eq_some_iff.1 h).1
  apply List.ext_getElem?; intro m
  rw [List.getElem?_set, freeTo_get, freeTo_get, freeTo_len, cleanTo_full]
  by_cases c : k = m
  · subst c; rw [if_pos rfl, if_pos hj, h]; simp
  · rw [if_neg c]
    by_cases c2 : m < k
    · simp [c2, show m < k + 1 by omega]
    · simp [c2, show ¬ m < k + 1 by omega]

/-! ### in the heap -/
theorem MemIs.at {w : World} {g : Nat} {F : Nat → Prop} {bs : MemS} (h : MemIs w g F bs) {k : Nat} {x : Value} {b : Option (List Byt)} (hb : bs[k]? = some b) (hx : BlkAt w g bs k x) : SlV w x b ∧ ∀ q, x.ownBlock = some q → F q := by
  obtain ⟨⟨v, vs, h1, h2, h3, h4, h5⟩, hg, hl⟩ := h
  exact h4 k x b (hx v vs h1 h2) hb
theorem BlkAt.kept {w w' : World} {g : Nat} {bs bs' : MemS} {k : Nat} {x : Value} (hx : BlkAt w g bs k x) (hlen : bs'.length = bs.length) (hg : w'.heap[g]? = w.heap[g]?) (hv : ∀ v, w.heap[g]? = some (.cells #[v] 127 (0, 0)) → ∀ B, v.ownBlock = some B → w'.heap[B]? = w.heap[B]?) : BlkAt w' g bs' k x := by
  intro v vs h1 h2
  rw [hg] at h1
  rw [hlen] at h2
  exact hx v vs h1 (ownsRow_kept h2 fun B hB => (hv v h1 B hB).symm)
/-- a block's row is neither the memory's head nor its table -/
theorem MemIs.apart {w : World} {g q : Nat} {F : Nat → Prop} {bs : MemS} {l : List Byt} (h : MemIs w g F bs) (hr : Row w q l) : g ≠ q ∧ ∀ v, w.heap[g]? = some (.cells #[v] 127 (0, 0)) → ∀ B, v.ownBlock = some B → B ≠ q := by
  obtain ⟨⟨v, vs, h1, h2, h3, h4, h5⟩, hg, hl⟩ := h
  refine ⟨fun e => row_ne hr h1 (by decide) e.symm, fun v' h1' B hB e => ?_⟩
  rw [h1] at h1'
  cases h1'
  obtain ⟨c, hc⟩ := own_at h2 hB
  exact row_ne hr hc (by decide) e.symm
theorem BlkAt.put {w w' : World} {g q k : Nat} {F : Nat → Prop} {bs bs' : MemS} {l : List Byt} {x : Value} (h : MemIs w g F bs) (hr : Row w q l) (hlen : bs'.length = bs.length) (hfar : ∀ i, i < w.heap.size → i ≠ q → w'.heap[i]? = w.heap[i]?) (hx : BlkAt w g bs k x) : BlkAt w' g bs' k x := by
  have hap := h.apart hr
  refine hx.kept hlen (hfar g (h.lt g h.self) hap.1) fun v hv B hB => ?_
  have hne := hap.2 v hv B hB
  obtain ⟨⟨v', vs, h1, h2, h3, h4, h5⟩, hg, hl⟩ := h
  rw [h1] at hv
  cases hv
  exact hfar B (hl B (h3 B hB)) hne
/-- entry k becomes nil -/
theorem MemIs.drop {w : World} {g B C k : Nat} {F : Nat → Prop} {bs : MemS} (h : MemIs w g F bs) (hc : w.cell? ⟨g, 0, none⟩ = some (.slice (some ⟨B, 0, none⟩) bs.length C)) (hk : k < bs.length) :
    MemIs (w.setCell ⟨B, k, none⟩ (.slice none 0 0)) g F (bs.set k none) ∧ F B := by
  obtain ⟨⟨v, vs, h1, h2, h3, h4, h5⟩, hg, hl⟩ := h
  have hc' := one_cell h1
  rw [hc] at hc'
  cases hc'
  have hBF := h3 B rfl
  obtain ⟨c, hcB⟩ := own_at h2 (k := B) rfl
  have hBg : g ≠ B := by
    rintro rfl
    rw [h1] at hcB
    injection hcB with hcB
    injection hcB with _ ht
    exact absurd ht (by decide)
  have hvl : vs.length = bs.length := by have := h2.1; omega
  have hkept : ∀ i x b, vs[i]? = some x → bs[i]? = some b → SlV (w.setCell ⟨B, k, none⟩ (.slice none 0 0)) x b := fun i x b hx hb => by
    cases b with
    | none => exact (h4 i x none hx hb).1
    | some l =>
      obtain ⟨o1, o2, q, rfl, hrow⟩ := (h4 i x _ hx hb).1
      refine ⟨o1, o2, q, rfl, (Below.heap_setCell w ⟨B, k, none⟩ _ q ?_).trans hrow⟩
      exact row_ne hrow hcB (by decide)
  refine ⟨⟨⟨_, vs.set k (.slice none 0 0), (Below.heap_setCell w ⟨B, k, none⟩ _ g hBg).trans h1, ?_, h3, fun i x b hx hb => ?_, fun i j x y q hij hx hy hq1 hq2 => ?_⟩, hg, fun i hi => by simpa [World.setCell] using hl i hi⟩, hBF⟩
  · rw [List.length_set]
    simpa using (h2.stored k (.slice none 0 0)).1
  · rw [List.getElem?_set] at hx hb
    by_cases e : k = i
    · subst e
      rw [if_pos rfl, if_pos (by omega)] at hx hb
      cases hx; cases hb
      exact ⟨rfl, fun q hq => by cases hq⟩
    · rw [if_neg e] at hx hb
      exact ⟨hkept i x b hx hb, (h4 i x b hx hb).2⟩
  · rw [List.getElem?_set] at hx hy
    by_cases e : k = i
    · subst e
      rw [if_pos rfl, if_pos (by omega)] at hx
      cases hx; cases hq1
    · by_cases e2 : k = j
      · subst e2
        rw [if_pos rfl, if_pos (by omega)] at hy
        cases hy; cases hq2
      · rw [if_neg e] at hx
        rw [if_neg e2] at hy
        exact h5 i j x y q hij hx hy hq1 hq2
end Go.Proofs.Ytgkgmeofilkopaa
