/- Layer 9: the builtin copy over elements of several cells; a row behind it. No condition. -/
import Derived.Test.YtgkgmeofilkopaaMmD
import Derived.Tactics
import Derived.Laws.IdiomCopy
namespace Go.Proofs.Ytgkgmeofilkopaa
open Go.RowKit
set_option linter.unusedSimpArgs false
set_option linter.unusedVariables false

theorem run_copy_wide {P : Program} (w : World) (dT sT ty elem : TypeId) (size b o dLen dCap : Nat) (a : Addr) (sLen sCap : Nat) (cs : List Value)
    (hu : P.underlying dT = some (.slice elem)) (hs : (P.info? elem).map (·.size) = some size) (hn : cs.length = Nat.min sLen dLen * size)
    (hsrc : ∀ j v, cs[j]? = some v → w.cell? (a.add j) = some v) (ht : w.there b o cs.length) (h1 : ∀ v ∈ cs, v.oneCell' = true) :
    (Builtin.copy_ #[dT, sT] ty #[.slice (some ⟨b, o, none⟩) dLen dCap, .slice (some a) sLen sCap]).run P w = .ok (goInt (Nat.min sLen dLen : Nat)) (w.setCells b o cs) := by
  have hl := run_loadCells_list (P := P) w a cs hsrc
  have hst := run_storeCells_cells (P := P) b o cs 0 w (by simpa using fun j hj => (ht j hj).1) (by simpa using fun j hj => (ht j hj).2) h1
  cases hq : P.info? elem with
  | none => simp [hq] at hs
  | some i =>
    have hi : i.size = size := by simpa [hq] using hs
    simp [Builtin.copy_, run_underlying hu, Builtin.lenOf, Builtin.firstCells, sizeOf, typeInfo, hq, hi, ← hn, hl, hst]
theorem wpList_copy_wide {P : Program} {w : World} {ops : Array Oper} {rest : List Oper} {op : Oper} {a : Act} {Q : Exit → Act → World → Prop} (hgd : op.guard = none) (d s : Operand) (dT sT : TypeId)
    (ho : op.op = .call { callee := .builtin .copy, args := #[d, s], argTypes := #[dT, sT] }) (elem : TypeId) (hu : P.underlying dT = some (.slice elem)) (size : Nat) (hsz : (P.info? elem).map (·.size) = some size)
    (b o dLen dCap : Nat) (ad : Addr) (sLen sCap : Nat) (hd : a.eval d = .slice (some ⟨b, o, none⟩) dLen dCap) (hs : a.eval s = .slice (some ad) sLen sCap)
    (cs : List Value) (hn : cs.length = Nat.min sLen dLen * size) (hsrc : ∀ j v, cs[j]? = some v → w.cell? (ad.add j) = some v) (ht : w.there b o cs.length) (h1 : ∀ v ∈ cs, v.oneCell' = true)
    (h : wpList P ops Q rest (a.put op.dst (goInt (Nat.min sLen dLen : Nat))) (w.setCells b o cs)) : wpList P ops Q (op :: rest) a w := by
  refine wpList_plain hgd fun K hK => ?_
  have hrun := run_copy_wide (P := P) w dT sT op.type elem size b o dLen dCap ad sLen sCap cs hu hsz hn hsrc ht h1
  unfold Oper.wp
  simp [execOp, ho, resolve, invoke, builtin, hd, hs, hrun, Result.andThen]
  exact hK _ _ h
theorem bc_one (p : List Byt) : ∀ v ∈ p.flatMap bc, v.oneCell' = true := by
  intro v hv
  obtain ⟨b, -, hb⟩ := List.mem_flatMap.1 hv
  simp only [bc, List.mem_cons, List.not_mem_nil, or_false] at hb
  rcases hb with rfl | rfl | rfl | rfl | rfl <;> rfl
theorem flat_len (p : List Byt) : (p.flatMap bc).length = p.length * 5 := by have := rowC_size p; simpa [rowC] using this
theorem layB_len {l p : List Byt} {o : Nat} (h : o + p.length ≤ l.length) : (layB l o p).length = l.length := by simp [layB]; omega
theorem layB_get {l p : List Byt} {o : Nat} (h : o + p.length ≤ l.length) (k : Nat) : (layB l o p)[k]? = if o ≤ k ∧ k < o + p.length then p[k - o]? else l[k]? := by
  unfold layB
  have ht : (l.take o).length = o := by rw [List.length_take]; omega
  by_cases h1 : k < o
  · rw [List.getElem?_append_left (by omega), List.getElem?_take_of_lt h1, if_neg (by omega)]
  · rw [List.getElem?_append_right (by omega), ht]
    by_cases h2 : k < o + p.length
    · rw [List.getElem?_append_left (by omega), if_pos (by omega)]
    · rw [List.getElem?_append_right (by omega), if_neg (by omega), List.getElem?_drop]
      congr 1; omega
/-- several bytes laid -/
theorem Row.lay {w : World} {q : Nat} {l p : List Byt} {o : Nat} (h : Row w q l) (hl : o + p.length ≤ l.length) : Row (w.setCells q (o * 5) (p.flatMap bc)) q (layB l o p) := by
  obtain ⟨cur', h1, h2, h3⟩ := heap_setCells (w := w) (p.flatMap bc) (o * 5) w _ h
  have e : cur' = rowC (layB l o p) := by
    apply Array.ext_getElem?
    intro m
    rw [h3 m, rowC_size, flat_len, rowC_get2, rowC_get2, layB_get hl, rowC_get]
    by_cases c : o ≤ m / 5 ∧ m / 5 < o + p.length
    · rw [if_pos (by omega), if_pos c, show (m - o * 5) / 5 = m / 5 - o by omega, show (m - o * 5) % 5 = m % 5 by omega]
    · rw [if_neg (by omega), if_neg c]
  rw [e] at h1
  exact h1
theorem Row.there_at {w : World} {q : Nat} {l p : List Byt} {o : Nat} (h : Row w q l) (hl : o + p.length ≤ l.length) : w.there q (o * 5) (p.flatMap bc).length := h.there (by rw [flat_len]; omega)
theorem Row.src {w : World} {q : Nat} {p : List Byt} (h : Row w q p) : ∀ j v, (p.flatMap bc)[j]? = some v → w.cell? ((⟨q, 0, none⟩ : Addr).add j) = some v := fun j v hv => by
  rw [show (⟨q, 0, none⟩ : Addr).add j = ⟨q, j, none⟩ by rw [Addr.add_mid, Nat.zero_add], h.cell, rowC, List.getElem?_toArray]
  exact hv
theorem heap_setCells_far {q k : Nat} (h : k ≠ q) : ∀ (vs : List Value) (o : Nat) (w : World), (w.setCells q o vs).heap[k]? = w.heap[k]?
  | [], _, _ => rfl
  | v :: r, o, w => (heap_setCells_far h r (o + 1) _).trans (Below.heap_setCell w ⟨q, o, none⟩ v k h)
theorem size_setCells (q : Nat) : ∀ (vs : List Value) (o : Nat) (w : World), (w.setCells q o vs).heap.size = w.heap.size
  | [], _, _ => rfl
  | v :: r, o, w => (size_setCells q r (o + 1) _).trans (by simp [World.setCell])
theorem still_setCells (q : Nat) : ∀ (vs : List Value) (o : Nat) (w : World), (w.setCells q o vs).os = w.os ∧ (w.setCells q o vs).tape = w.tape ∧ (w.setCells q o vs).output = w.output
  | [], _, _ => ⟨rfl, rfl, rfl⟩
  | v :: r, o, w => still_setCells q r (o + 1) (w.setCell ⟨q, o, none⟩ v)
theorem byteS_ok (t : Int) (v : Val) (i : Nat) : 0 ≤ (byteS t v i).bits ∧ (byteS t v i).bits ≤ 255 := by
  unfold byteS
  split
  · show 0 ≤ _ % 256 ∧ _ % 256 ≤ 255
    omega
  · split
    · exact ⟨Int.le_refl _, by show (0 : Int) ≤ 255; decide⟩
    · split
      · exact ⟨Int.le_refl _, by show (0 : Int) ≤ 255; decide⟩
      · exact ⟨Int.le_refl _, by show (0 : Int) ≤ 255; decide⟩
theorem okB_pack (t : Int) (v : Val) : OkB (packS t v) := by
  intro b hb
  obtain ⟨i, -, rfl⟩ := List.mem_map.1 hb
  unfold byteS
  split
  · show 0 ≤ _ % 256 ∧ _ % 256 ≤ 255
    omega
  · split
    · exact ⟨Int.le_refl _, by show (0 : Int) ≤ 255; decide⟩
    · split
      · exact ⟨Int.le_refl _, by show (0 : Int) ≤ 255; decide⟩
      · exact ⟨Int.le_refl _, by show (0 : Int) ≤ 255; decide⟩
theorem okB_lay {l p : List Byt} {o : Nat} (h1 : OkB l) (h2 : OkB p) : OkB (layB l o p) := by
  intro b hb
  unfold layB at hb
  rcases List.mem_append.1 hb with hb | hb
  · exact h1 b (List.mem_of_mem_take hb)
  · rcases List.mem_append.1 hb with hb | hb
    · exact h2 b hb
    · exact h1 b (List.mem_of_mem_drop hb)

/-! ### what an update of a memory leaves -/
/-- nothing but F and new blocks -/
structure Upd (F : Nat → Prop) (w w' : World) : Prop where
  os : w'.os = w.os
  tape : w'.tape = w.tape
  output : w'.output = w.output
  size : w.heap.size ≤ w'.heap.size
  block : ∀ k, k < w.heap.size → ¬ F k → w'.heap[k]? = w.heap[k]?
theorem Upd.trans {F F' : Nat → Prop} {a b c : World} (h : Upd F a b) (k : Upd F' b c) (hF : ∀ k, F' k → k < a.heap.size → F k) : Upd F a c :=
  ⟨k.os.trans h.os, k.tape.trans h.tape, k.output.trans h.output, Nat.le_trans h.size k.size, fun i hi hn => (k.block i (Nat.lt_of_lt_of_le hi h.size) (fun hf => hn (hF i hf hi))).trans (h.block i hi hn)⟩
theorem Upd.of_below {F : Nat → Prop} {a b : World} (h : Below a.heap.size a b) : Upd F a b := ⟨h.os, h.tape, h.output, h.size, fun k hk _ => h.block k hk⟩
theorem Upd.below {F : Nat → Prop} {a b : World} {B : Nat} (h : Upd F a b) (hB : B ≤ a.heap.size) (hF : ∀ k, F k → B ≤ k) : Below B a b := ⟨h.os, h.tape, h.output, h.size, fun k hk => h.block k (Nat.lt_of_lt_of_le hk hB) (fun hf => by have := hF k hf; omega)⟩
/-- block q's bytes are others now -/
theorem MemIs.put {w w' : World} {g q k : Nat} {F : Nat → Prop} {bs : MemS} {l l' : List Byt} (h : MemIs w g F bs) (hk : bs[k]? = some (some l)) (hq : SlV w (.slice (some ⟨q, 0, none⟩) l.length l.length) (some l))
    (hx : BlkAt w g bs k (.slice (some ⟨q, 0, none⟩) l.length l.length))
    (hr : Row w' q l') (hlen : l'.length = l.length) (hok : OkB l') (hfar : ∀ i, i < w.heap.size → i ≠ q → w'.heap[i]? = w.heap[i]?) (hs : w.heap.size ≤ w'.heap.size) : MemIs w' g F (bs.set k (some l')) := by
  obtain ⟨⟨v, vs, h1, h2, h3, h4, h5⟩, hg, hl⟩ := h
  have hvk := hx v vs h1 h2
  obtain ⟨-, h40, q', hq', hrow⟩ := hq
  cases hq'
  have hqF : F q := (h4 k _ _ hvk hk).2 q rfl
  have hgq : g ≠ q := by
    rintro rfl
    rw [Row, h1] at hrow
    injection hrow with hrow
    injection hrow with _ ht
    exact absurd ht (by decide)
  have hvq : ∀ j, v.ownBlock = some j → j ≠ q := by
    rintro j hj rfl
    rcases h2.2 with ⟨rfl, _⟩ | ⟨B, C, cur, rfl, _, hB, _⟩
    · simp [Value.ownBlock] at hj
    · simp only [Value.ownBlock, Option.some.injEq] at hj
      subst hj
      rw [Row, hB] at hrow
      injection hrow with hrow
      injection hrow with _ ht
      exact absurd ht (by decide)
  refine ⟨⟨v, vs, (hfar g (hl g hg) hgq).trans h1, ?_, h3, fun i x b hxi hb => ?_, h5⟩, hg, fun k hF => Nat.lt_of_lt_of_le (hl k hF) hs⟩
  · rw [List.length_set]
    exact ownsRow_kept h2 fun j hj => hfar j (hl j (h3 j hj)) (hvq j hj)
  · by_cases hik : i = k
    · subst hik
      rw [hvk] at hxi
      cases hxi
      have hi := (List.getElem?_eq_some_iff.1 hk).1
      rw [List.getElem?_set_self hi] at hb
      cases hb
      exact ⟨⟨hok, by omega, q, by rw [hlen], hr⟩, fun q hq => (h4 i _ _ hvk hk).2 q hq⟩
    · rw [List.getElem?_set_ne (fun e => hik e.symm)] at hb
      obtain ⟨a1, a2⟩ := h4 i x b hxi hb
      exact ⟨a1.kept fun j hj => hfar j (hl j (a2 j hj)) (fun e => by subst e; exact h5 i k x _ j hik hxi hvk hj rfl), a2⟩
end Go.Proofs.Ytgkgmeofilkopaa
