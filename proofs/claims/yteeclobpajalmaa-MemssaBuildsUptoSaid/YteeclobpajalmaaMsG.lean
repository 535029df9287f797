/- memssa's accesses of one block; what stands along them; rows of pairs in memory. No condition. -/
import Derived.Test.YteeclobpajalmaaMsE
namespace Go.Proofs.Yteeclobpajalmaa
open Go.RowKit
set_option linter.unusedSimpArgs false
set_option linter.unusedVariables false

section
variable {bs : List (List Ins)} {H : Nat → Bool} {o l : List Int} {n b : Nat}
/-- where block b's accesses begin, and those of its code -/
def offA (bs : List (List Ins)) (H : Nat → Bool) (o : List Int) (b : Nat) : Nat := (laidA bs H o b).length
def fstA (bs : List (List Ins)) (H : Nat → Bool) (o : List Int) (b : Nat) : Nat := offA bs H o b + (if H b = true then 1 else 0)
theorem seg_before {j : Nat} (hj : j < offA bs H o b) : ¬ LastC (laidA bs H o n) b j := fun ⟨h0, a, h1, h2, h3⟩ => by
  obtain ⟨c, hc, -, -, h4, -⟩ := laidA_block h1 h0
  have e : c = b := by omega
  subst e
  unfold offA at hj
  omega
theorem seg_after {j : Nat} (hj : offA bs H o (b + 1) ≤ j) : ¬ LastC (laidA bs H o n) b j := fun ⟨h0, a, h1, h2, h3⟩ => by
  obtain ⟨c, hc, -, -, -, h4⟩ := laidA_block h1 h0
  have e : c = b := by omega
  subst e
  unfold offA at hj
  omega
theorem seg_next (hbo : (b : Int) ∈ o) : offA bs H o (b + 1) = offA bs H o b + (phiA H b).length + (codeA b (bs.getD b []) (bs.getD b []).length).length := by
  unfold offA
  show (laidA bs H o b ++ blkA bs H o b).length = _
  unfold blkA
  rw [if_pos hbo, List.length_append, List.length_append]
  omega
theorem phiA_len : (phiA H b).length = if H b = true then 1 else 0 := by unfold phiA; split <;> rfl
theorem fst_le (hbo : (b : Int) ∈ o) : fstA bs H o b ≤ offA bs H o (b + 1) := by
  rw [seg_next hbo, phiA_len]
  unfold fstA
  omega
theorem off_le {c : Nat} (h : c ≤ n) : offA bs H o c ≤ (laidA bs H o n).length := laidA_mark h
theorem off_pos : 0 < offA bs H o b := laidA_pos b
theorem seg_phi (hb : b < n) (hbo : (b : Int) ∈ o) (hH : H b = true) : (laidA bs H o n)[offA bs H o b]? = some ⟨3, b, -1, [], []⟩ := by
  have h1 := seg_next (bs := bs) (H := H) hbo
  rw [phiA_len, if_pos hH] at h1
  obtain ⟨a, h2, h3, h4⟩ := laidA_seg (bs := bs) (H := H) (o := o) hb (i := offA bs H o b) (Nat.le_refl _) (by show _ < offA bs H o (b + 1); omega)
  rw [h2]
  have e : offA bs H o b - (laidA bs H o b).length = 0 := by unfold offA; omega
  rw [e] at h4
  unfold blkA at h4
  rw [if_pos hbo] at h4
  unfold phiA at h4
  rw [if_pos hH] at h4
  simpa using h4.symm
theorem seg_code (hb : b < n) (hbo : (b : Int) ∈ o) {i : Nat} (h1 : fstA bs H o b ≤ i) (h2 : i < offA bs H o (b + 1)) : ∃ (k : Int) (j : Nat), (laidA bs H o n)[i]? = some ⟨k, b, j, [], []⟩ ∧ (k = 1 ∨ k = 2) := by
  obtain ⟨a, h3, h4, h5⟩ := laidA_seg (bs := bs) (H := H) (o := o) hb (i := i) (by unfold fstA offA at h1; omega) h2
  unfold blkA at h5
  rw [if_pos hbo, List.getElem?_append_right (by rw [phiA_len]; unfold fstA offA at h1; omega)] at h5
  obtain ⟨j, k, -, h6, rfl⟩ := codeA_mem _ (List.mem_of_getElem? h5)
  exact ⟨k, j, h3, h6⟩
/-- an access behind the entry lies in its block's part -/
theorem seg_of {i : Nat} {a : Ac} (h : (laidA bs H o n)[i]? = some a) (hi : 0 < i) : ∃ c : Nat, a.block = c ∧ c < n ∧ (c : Int) ∈ o ∧ offA bs H o c ≤ i ∧ i < offA bs H o (c + 1) := laidA_block h hi
theorem kind_seg {i : Nat} {a : Ac} (h : (laidA bs H o n)[i]? = some a) (hk : a.kind = 1 ∨ a.kind = 2) : ∃ c : Nat, a.block = c ∧ c < n ∧ (c : Int) ∈ o ∧ fstA bs H o c ≤ i ∧ i < offA bs H o (c + 1) := by
  have hi : 0 < i := Nat.pos_of_ne_zero fun e => by
    subst e
    rw [laidA_zero] at h
    cases h
    rcases hk with h | h <;> cases h
  obtain ⟨c, h1, h2, h3, h4, h5⟩ := seg_of h hi
  refine ⟨c, h1, h2, h3, ?_, h5⟩
  unfold fstA
  split
  · rename_i hH
    refine Nat.lt_of_le_of_ne h4 fun e => ?_
    rw [← e, seg_phi h2 h3 hH] at h
    cases h
    rcases hk with h | h <;> cases h
  · omega
theorem kind_nat {i : Nat} {a : Ac} (h : (laidA bs H o n)[i]? = some a) : a.kind = 0 ∨ a.kind = 1 ∨ a.kind = 2 ∨ a.kind = 3 := by
  rcases Nat.eq_zero_or_pos i with e | e
  · subst e
    rw [laidA_zero] at h
    cases h
    exact .inl rfl
  · obtain ⟨c, h1, h2, h3⟩ := laidA_mem n h e
    rcases (blkA_mem h2).2 with ⟨-, rfl⟩ | ⟨j, k, -, h4, rfl⟩
    · exact .inr (.inr (.inr rfl))
    · rcases h4 with rfl | rfl
      · exact .inr (.inl rfl)
      · exact .inr (.inr (.inl rfl))
/-- what stands where block b's code begins -/
theorem on_first {V : List Nat} {K : List (Nat × Int)} {z : Int} (h : SkI (laidA bs H o n) l o n V (K ++ [(b, z)])) :
    (if H b = true then ((offA bs H o b : Nat) : Int) else z) = stF (laidA bs H o n) l o b (lastD (laidA bs H o n) b (fstA bs H o b)) := by
  obtain ⟨h1, h2, -, -⟩ := h.kin b z (by simp)
  have h3 : lastD (laidA bs H o n) b (offA bs H o b) = -1 := lastD_none fun j hj => seg_before hj
  by_cases hH : H b = true
  · have e : fstA bs H o b = offA bs H o b + 1 := by unfold fstA; rw [if_pos hH]
    rw [if_pos hH, e, lastD_hit ⟨off_pos, _, seg_phi h1 h2 hH, rfl, by show (3 : Int) ≠ 2; omega⟩, stF_here (by omega)]
  · have e : fstA bs H o b = offA bs H o b := by unfold fstA; rw [if_neg hH]; rfl
    rw [if_neg hH, e]
    exact sk_on h _ h3
theorem on_def {i : Nat} {j : Nat} (hi : 0 < i) (h : (laidA bs H o n)[i]? = some ⟨1, b, j, [], []⟩) : (i : Int) = stF (laidA bs H o n) l o b (lastD (laidA bs H o n) b (i + 1)) := by
  rw [lastD_hit ⟨hi, _, h, rfl, by show (1 : Int) ≠ 2; omega⟩, stF_here (by omega)]
theorem on_use {i : Nat} {j : Nat} (h : (laidA bs H o n)[i]? = some ⟨2, b, j, [], []⟩) : lastD (laidA bs H o n) b (i + 1) = lastD (laidA bs H o n) b i := by
  refine lastD_skip fun ⟨_, a, h1, _, h3⟩ => ?_
  rw [h] at h1
  cases h1
  exact h3 rfl
theorem on_end (hb : b < n) {sc : Int → List Int} (I : IdomOk sc o n l) (O : OrderOk n sc o) (hbo : (b : Int) ∈ o) : stF (laidA bs H o n) l o b (lastD (laidA bs H o n) b (offA bs H o (b + 1))) = endF (laidA bs H o n) l o b := by
  rw [endF_eq I O hbo, lastD_more (laidA bs H o n).length (off_le hb) fun j h1 _ => seg_after h1]
end
/-- the accesses while what they stand on is told: those of the blocks V, and those of block b below i -/
structure StdI (bs : List (List Ins)) (H : Nat → Bool) (o l : List Int) (P : List (List Int)) (n : Nat) (V : List Nat) (b i : Nat) (ls : List Ac) : Prop where
  len : ls.length = (laidA bs H o n).length
  at_ : ∀ (j : Nat) a, (laidA bs H o n)[j]? = some a → ls[j]? = some (if (a.kind = 1 ∨ a.kind = 2) ∧ (a.block.toNat ∈ V ∨ a.block.toNat = b ∧ j < i) then accD (laidA bs H o n) l o P j a else a)
/-- what stands at the ends of the blocks V -/
def EndI (bs : List (List Ins)) (H : Nat → Bool) (o l : List Int) (n : Nat) (V : List Nat) (Le : List Int) : Prop := ∀ b, b < n → Le[b]? = some (if b ∈ V then endF (laidA bs H o n) l o b else -1)
section
variable {bs : List (List Ins)} {H : Nat → Bool} {o l : List Int} {P : List (List Int)} {n b i : Nat} {V : List Nat} {ls : List Ac}
theorem std_start : StdI bs H o l P n [] 0 0 (laidA bs H o n) := ⟨rfl, fun j a h => by
  rw [if_neg (fun h' => by rcases h'.2 with h' | h' <;> simp at h')]; exact h⟩
theorem std_take (h : StdI bs H o l P n V b i ls) {b' : Nat} (hi : i = 0 ∨ b ∈ V) : StdI bs H o l P n V b' (fstA bs H o b') ls := ⟨h.len, fun j a ha => by
  rw [h.at_ j a ha]
  congr 1
  by_cases hk : a.kind = 1 ∨ a.kind = 2
  · obtain ⟨c, h1, -, -, h3, -⟩ := kind_seg ha hk
    have e : a.block.toNat = c := by omega
    rw [e]
    by_cases hV : c ∈ V
    · rw [if_pos ⟨hk, .inl hV⟩, if_pos ⟨hk, .inl hV⟩]
    · rw [if_neg (fun h' => ?_), if_neg (fun h' => ?_)]
      · rcases h'.2 with h' | ⟨h', h4⟩
        · exact hV h'
        · subst h'; omega
      · rcases h'.2 with h' | ⟨h', h4⟩
        · exact hV h'
        · rcases hi with hi | hi
          · omega
          · rw [h'] at hV; exact hV hi
  · rw [if_neg (fun h' => hk h'.1), if_neg (fun h' => hk h'.1)]⟩
theorem std_put (h : StdI bs H o l P n V b i ls) (hbV : b ∉ V) {a : Ac} (ha : (laidA bs H o n)[i]? = some a) (hk : a.kind = 1 ∨ a.kind = 2) (hb : a.block.toNat = b) : StdI bs H o l P n V b (i + 1) (ls.set i (accD (laidA bs H o n) l o P i a)) := by
  have hil := (List.getElem?_eq_some_iff.1 ha).1
  refine ⟨by rw [List.length_set]; exact h.len, fun j c hc => ?_⟩
  by_cases e : i = j
  · subst e
    rw [ha] at hc
    cases hc
    rw [List.getElem?_set_self (by rw [h.len]; exact hil), if_pos ⟨hk, .inr ⟨hb, Nat.lt_succ_self _⟩⟩]
  · rw [List.getElem?_set_ne e, h.at_ j c hc]
    congr 1
    by_cases h1 : (c.kind = 1 ∨ c.kind = 2) ∧ (c.block.toNat ∈ V ∨ c.block.toNat = b ∧ j < i)
    · rw [if_pos h1, if_pos ⟨h1.1, h1.2.imp id fun h => ⟨h.1, by omega⟩⟩]
    · rw [if_neg h1, if_neg (fun h2 => h1 ⟨h2.1, h2.2.imp id fun h => ⟨h.1, by omega⟩⟩)]
theorem std_bare (h : StdI bs H o l P n V b i ls) (hbV : b ∉ V) {a : Ac} (ha : (laidA bs H o n)[i]? = some a) (hb : a.block.toNat = b) : ls[i]? = some a := by
  rw [h.at_ i a ha, if_neg]
  rintro ⟨-, h1 | ⟨-, h1⟩⟩
  · rw [hb] at h1; exact hbV h1
  · omega
theorem std_done (h : StdI bs H o l P n V b (offA bs H o (b + 1)) ls) : StdI bs H o l P n (V ++ [b]) b 0 ls := ⟨h.len, fun j a ha => by
  rw [h.at_ j a ha]
  congr 1
  by_cases hk : a.kind = 1 ∨ a.kind = 2
  · obtain ⟨c, h1, -, -, -, h3⟩ := kind_seg ha hk
    have e : a.block.toNat = c := by omega
    rw [e]
    by_cases hV : c ∈ V
    · rw [if_pos ⟨hk, .inl hV⟩, if_pos ⟨hk, .inl (List.mem_append_left _ hV)⟩]
    · by_cases hcb : c = b
      · subst hcb
        rw [if_pos ⟨hk, .inr ⟨rfl, h3⟩⟩, if_pos ⟨hk, .inl (by simp)⟩]
      · rw [if_neg (fun h' => ?_), if_neg (fun h' => ?_)]
        · rcases h'.2 with h' | h'
          · rcases List.mem_append.1 h' with h' | h'
            · exact hV h'
            · exact hcb (List.mem_singleton.1 h')
          · exact hcb h'.1
        · rcases h'.2 with h' | h'
          · exact hV h'
          · exact hcb h'.1
  · rw [if_neg (fun h' => hk h'.1), if_neg (fun h' => hk h'.1)]⟩
/-- the accesses that are no phis, with what they stand on -/
noncomputable def stoodA (L : List Ac) (l o : List Int) (P : List (List Int)) : List Ac := L.mapIdx fun i a => if a.kind = 1 ∨ a.kind = 2 then accD L l o P i a else a
theorem stood_at {L : List Ac} {i : Nat} {a : Ac} (h : L[i]? = some a) : (stoodA L l o P)[i]? = some (if a.kind = 1 ∨ a.kind = 2 then accD L l o P i a else a) := by
  unfold stoodA
  rw [List.getElem?_mapIdx, h]; rfl
theorem stood_len {L : List Ac} : (stoodA L l o P).length = L.length := by unfold stoodA; simp
theorem std_end (h : StdI bs H o l P n V b 0 ls) (hV : ∀ c : Nat, (c : Int) ∈ o → c ∈ V) : ls = stoodA (laidA bs H o n) l o P := by
  refine List.ext_getElem? fun j => ?_
  rcases Nat.lt_or_ge j (laidA bs H o n).length with hj | hj
  · have ha := List.getElem?_eq_getElem hj
    rw [h.at_ j _ ha, stood_at ha]
    congr 1
    by_cases hk : (laidA bs H o n)[j].kind = 1 ∨ (laidA bs H o n)[j].kind = 2
    · obtain ⟨c, h1, -, h2, -⟩ := kind_seg ha hk
      rw [if_pos ⟨hk, .inl (hV _ (by rw [h1]; simpa using h2))⟩, if_pos hk]
    · rw [if_neg (fun h' => hk h'.1), if_neg hk]
  · rw [List.getElem?_eq_none (by rw [h.len]; exact hj), List.getElem?_eq_none (by rw [stood_len]; exact hj)]
theorem end_start {Le : List Int} (h : ∀ b, b < n → Le[b]? = some (-1)) : EndI bs H o l n [] Le := fun b hb => by rw [h b hb]; simp
theorem end_put {Le : List Int} (h : EndI bs H o l n V Le) (hb : b < n) (hl : Le.length = n) : EndI bs H o l n (V ++ [b]) (Le.set b (endF (laidA bs H o n) l o b)) := fun c hc => by
  by_cases e : b = c
  · subst e
    rw [List.getElem?_set_self (by omega), if_pos (by simp)]
  · rw [List.getElem?_set_ne e, h c hc]
    congr 1
    by_cases hV : c ∈ V
    · rw [if_pos hV, if_pos (List.mem_append_left _ hV)]
    · rw [if_neg hV, if_neg (fun h' => by
        rcases List.mem_append.1 h' with h' | h'
        · exact hV h'
        · exact e (List.mem_singleton.1 h').symm)]
theorem end_end {Le : List Int} (h : EndI bs H o l n V Le) (hl : Le.length = n) (hV : ∀ c : Nat, (c : Int) ∈ o ↔ c ∈ V) : Le = endsL (laidA bs H o n) l o n := by
  refine List.ext_getElem? fun j => ?_
  rcases Nat.lt_or_ge j n with hj | hj
  · rw [h j hj, ends_at hj]
    congr 1
    by_cases hV' : j ∈ V
    · rw [if_pos hV', if_pos ((hV j).2 hV')]
    · rw [if_neg hV', if_neg (fun h' => hV' ((hV j).1 h'))]
  · rw [List.getElem?_eq_none (by omega), List.getElem?_eq_none (by unfold endsL; simp; omega)]
end
/-! rows of pairs -/
def prc (p : Nat × Int) : List Value := [.int .i64 (p.1 : Int), .int .i64 p.2]
def OwnPr (w : World) (B : Nat) (v : Value) (l : List (Nat × Int)) : Prop := w.ownsRow B 97 2 v l.length (l.flatMap prc)
theorem prc_len (l : List (Nat × Int)) : (l.flatMap prc).length = l.length * 2 := by
  induction l with
  | nil => rfl
  | cons a l ih => rw [List.flatMap_cons, List.length_append, ih, List.length_cons]; simp [prc]; omega
theorem prc_at : ∀ {l : List (Nat × Int)} {k : Nat} {p : Nat × Int}, l[k]? = some p → (l.flatMap prc)[k * 2]? = some (.int .i64 (p.1 : Int)) ∧ (l.flatMap prc)[k * 2 + 1]? = some (.int .i64 p.2)
  | a :: l, 0, p, h => by cases h; simp [List.flatMap_cons, prc]
  | a :: l, k + 1, p, h => by
    obtain ⟨h1, h2⟩ := prc_at (l := l) (k := k) (by simpa using h)
    have hl : (prc a).length = 2 := rfl
    rw [List.flatMap_cons]
    refine ⟨?_, ?_⟩
    · rw [List.getElem?_append_right (by omega), hl, show (k + 1) * 2 - 2 = k * 2 by omega]; exact h1
    · rw [List.getElem?_append_right (by omega), hl, show (k + 1) * 2 + 1 - 2 = k * 2 + 1 by omega]; exact h2
section
variable {w w' : World} {B : Nat} {l : List (Nat × Int)} {p : Nat × Int}
theorem OwnPr.snoc {v' : Value} (h : w'.ownsRow B 97 2 v' (l.length + 1) (l.flatMap prc ++ prc p)) : OwnPr w' B v' (l ++ [p]) := by
  unfold OwnPr
  rw [List.length_append, List.flatMap_append]
  simpa using h
theorem OwnPr.last {g C m : Nat} (h : OwnPr w B (.slice (some ⟨g, 0, none⟩) (m + 1) C) (l ++ [p])) (hm : m = l.length) : w.cell? ⟨g, m * 2, none⟩ = some (.int .i64 (p.1 : Int)) ∧ w.cell? ⟨g, m * 2 + 1, none⟩ = some (.int .i64 p.2) ∧ m + 1 ≤ C ∧ C ≤ 9223372036854775807 ∧ OwnPr w B (.slice (some ⟨g, 0, none⟩) m C) l := by
  subst hm
  obtain ⟨h1, h2⟩ := prc_at (l := l ++ [p]) (k := l.length) (p := p) (by simp)
  have hr := h
  unfold OwnPr at hr
  rw [List.length_append, List.length_singleton] at hr
  refine ⟨by rw [World.ownsRow.cellAt hr _ (by omega)]; exact h1, by rw [World.ownsRow.cellAt hr _ (by omega)]; exact h2, ?_⟩
  rcases hr.2 with ⟨e, _⟩ | ⟨g', cap', cur, e, hb, hh, hnc, hcm, hcs, ht⟩
  · cases e
  · simp only [Value.slice.injEq, Option.some.injEq, Addr.mk.injEq, and_true, true_and] at e
    obtain ⟨rfl, rfl⟩ := e
    refine ⟨hnc, by unfold maxLen at hcm; omega, prc_len l, .inr ⟨g, C, cur, rfl, hb, hh, by omega, hcm, hcs, ?_⟩⟩
    have e2 : cur.toList.take (l.length * 2) = (cur.toList.take ((l.length + 1) * 2)).take (l.length * 2) := by rw [List.take_take]; congr 1; omega
    rw [e2, ht, List.flatMap_append, List.take_append_of_le_length (by rw [prc_len]; omega), List.take_of_length_le (by rw [prc_len]; omega)]
theorem OwnPr.lit (w : World) : OwnPr (w.alloc (.cells #[.int .i64 0, .int .i64 0] 97)) w.heap.size (.slice (some ⟨w.heap.size, 0, none⟩) 1 1) [(0, 0)] :=
  ⟨rfl, .inr ⟨w.heap.size, 1, _, rfl, Nat.le_refl _, box_top _ _, Nat.le_refl _, by unfold maxLen; omega, rfl, rfl⟩⟩
end
theorem cinfo_pair : (Try.prog.info? 97).map (fun i => (i.zero, i.size, i.bytes)) = some (some (.agg #[.int .i64 0, .int .i64 0]), 2, 16) := by kernel_rfl
end Go.Proofs.Yteeclobpajalmaa
