/- MemssaGoes, the plain side: what the two maps hold, what stands along a way. No condition. -/
import Derived.Test.YtidjaohlaljmpaaMsP
import Derived.Test.YtidjaohlaljmpaaMsO
namespace Go.Proofs.Ytidjaohlaljmpaa
set_option linter.unusedSimpArgs false
set_option linter.unusedVariables false

/-- the places' map behind the first m accesses -/
def atF (L : List Ac) : Nat → Int → Int → Int
  | 0 => fun _ _ => 0
  | m + 1 => fun c j => match L[m]? with
    | some x => if (x.kind ≠ 3 ∧ 0 < m) ∧ c = x.block ∧ j = x.pos then (m : Int) else atF L m c j
    | none => atF L m c j
/-- the phis' map behind the first m accesses -/
def ptF (L : List Ac) : Nat → Int → Int
  | 0 => fun _ => 0
  | m + 1 => fun c => match L[m]? with
    | some x => if x.kind = 3 ∧ c = x.block then (m : Int) else ptF L m c
    | none => ptF L m c
section
variable {L : List Ac}
theorem atF_step {m : Nat} {x : Ac} (h : L[m]? = some x) : atF L (m + 1) = fun c j => if (x.kind ≠ 3 ∧ 0 < m) ∧ c = x.block ∧ j = x.pos then (m : Int) else atF L m c j := by
  funext c j
  rw [atF, h]
theorem ptF_step {m : Nat} {x : Ac} (h : L[m]? = some x) : ptF L (m + 1) = fun c => if x.kind = 3 ∧ c = x.block then (m : Int) else ptF L m c := by
  funext c
  rw [ptF, h]
theorem atF_hit {i : Nat} {x : Ac} {b j : Int} (hx : L[i]? = some x) (hi : 0 < i) (hk : x.kind ≠ 3) (hb : x.block = b) (hj : x.pos = j) (hu : ∀ (k : Nat) y, L[k]? = some y → 0 < k → y.kind ≠ 3 → y.block = b → y.pos = j → k = i) :
    ∀ m, i < m → atF L m b j = i
  | 0, h => by omega
  | m + 1, h => by
    cases hm : L[m]? with
    | none =>
      have hl := (List.getElem?_eq_some_iff.1 hx).1
      have e : i ≠ m := fun e => by subst e; rw [hx] at hm; cases hm
      rw [atF, hm]
      exact atF_hit hx hi hk hb hj hu m (by omega)
    | some y =>
      rw [atF_step hm]
      simp only
      by_cases hc : (y.kind ≠ 3 ∧ 0 < m) ∧ b = y.block ∧ j = y.pos
      · rw [if_pos hc, hu m y hm hc.1.2 hc.1.1 hc.2.1.symm hc.2.2.symm]
      · rw [if_neg hc]
        have e : i ≠ m := fun e => by
          subst e
          rw [hx] at hm
          cases hm
          exact hc ⟨⟨hk, hi⟩, hb.symm, hj.symm⟩
        exact atF_hit hx hi hk hb hj hu m (by omega)
theorem ptF_hit {i : Nat} {x : Ac} {b : Int} (hx : L[i]? = some x) (hk : x.kind = 3) (hb : x.block = b) (hu : ∀ (k : Nat) y, L[k]? = some y → y.kind = 3 → y.block = b → k = i) :
    ∀ m, i < m → ptF L m b = i
  | 0, h => by omega
  | m + 1, h => by
    cases hm : L[m]? with
    | none =>
      have e : i ≠ m := fun e => by subst e; rw [hx] at hm; cases hm
      rw [ptF, hm]
      exact ptF_hit hx hk hb hu m (by omega)
    | some y =>
      rw [ptF_step hm]
      simp only
      by_cases hc : y.kind = 3 ∧ b = y.block
      · rw [if_pos hc, hu m y hm hc.1 hc.2.symm]
      · rw [if_neg hc]
        have e : i ≠ m := fun e => by
          subst e
          rw [hx] at hm
          cases hm
          exact hc ⟨hk, hb.symm⟩
        exact ptF_hit hx hk hb hu m (by omega)
theorem ptF_none {b : Int} (hu : ∀ (k : Nat) y, L[k]? = some y → y.kind = 3 → ¬ y.block = b) : ∀ m, ptF L m b = 0
  | 0 => rfl
  | m + 1 => by
    cases hm : L[m]? with
    | none => rw [ptF, hm]; exact ptF_none hu m
    | some y =>
      rw [ptF_step hm]
      simp only
      rw [if_neg (fun h => hu m y hm h.1 h.2.symm)]
      exact ptF_none hu m
end
section
variable {bs : List (List Ins)} {H : Nat → Bool} {o l : List Int} {n b : Nat} {x : List Ins}
theorem codeA_app {i : Nat} : ∀ m, ∃ r, codeA b x (i + m) = codeA b x i ++ r
  | 0 => ⟨[], by simp⟩
  | m + 1 => by
    obtain ⟨r, h⟩ := codeA_app m
    exact ⟨r ++ ((x[i + m]?).map (accI b (i + m))).getD [], by
      show codeA b x (i + m) ++ _ = _
      rw [h, List.append_assoc]
      rfl⟩
/-- where an instruction's access stands -/
def ixA (bs : List (List Ins)) (H : Nat → Bool) (o : List Int) (b : Nat) (x : List Ins) (i : Nat) : Nat := fstA bs H o b + (codeA b x i).length
theorem ix_at (hb : b < n) (hbo : (b : Int) ∈ o) (hx : bs[b]? = some x) {i : Nat} {s : Ins} (hs : x[i]? = some s) {a : Ac} (ha : accI b i s = [a]) : (laidA bs H o n)[ixA bs H o b x i]? = some a := by
  have hil := (List.getElem?_eq_some_iff.1 hs).1
  obtain ⟨r, hr⟩ := codeA_app (b := b) (x := x) (i := i + 1) (x.length - (i + 1))
  rw [Nat.add_sub_cancel' (by omega), codeA_step hs, ha] at hr
  obtain ⟨r2, hr2, -⟩ := laidA_app (bs := bs) (H := H) (o := o) (k := b + 1) (n - (b + 1))
  rw [Nat.add_sub_cancel' (by omega)] at hr2
  have e : laidA bs H o (b + 1) = laidA bs H o b ++ (phiA H b ++ (codeA b x i ++ [a] ++ r)) := by
    show laidA bs H o b ++ blkA bs H o b = _
    rw [blkA_in hbo hx, hr]
  rw [hr2, e]
  have hlen : ixA bs H o b x i = (laidA bs H o b ++ (phiA H b ++ codeA b x i)).length := by
    unfold ixA fstA offA
    rw [List.length_append, List.length_append, phiA_len]
    omega
  have e2 : laidA bs H o b ++ (phiA H b ++ (codeA b x i ++ [a] ++ r)) ++ r2 = (laidA bs H o b ++ (phiA H b ++ codeA b x i)) ++ (a :: (r ++ r2)) := by simp
  rw [e2, hlen, List.getElem?_append_right (Nat.le_refl _), Nat.sub_self]
  rfl
theorem ix_end (hbo : (b : Int) ∈ o) (hx : bs[b]? = some x) : ixA bs H o b x x.length = offA bs H o (b + 1) := by
  unfold ixA fstA
  rw [seg_next hbo, phiA_len, List.getD_eq_getElem?_getD, hx]
  rfl
theorem ix_pos {i : Nat} : 0 < ixA bs H o b x i := by
  unfold ixA fstA
  have := off_pos (bs := bs) (H := H) (o := o) (b := b)
  omega
theorem ix_step {i : Nat} {s : Ins} (hs : x[i]? = some s) : ixA bs H o b x (i + 1) = ixA bs H o b x i + (accI b i s).length := by
  unfold ixA
  rw [codeA_step hs, List.length_append]
  omega
theorem laid_uniq {i j : Nat} {a c : Ac} (ha : (laidA bs H o n)[i]? = some a) (hc : (laidA bs H o n)[j]? = some c) (hi : 0 < i) (hj : 0 < j) (h1 : a.block = c.block) (h2 : a.pos = c.pos) : i = j := by
  rcases Nat.lt_trichotomy i j with h | h | h
  · have := laidA_lt ha hc hi h
    unfold AccLt at this
    omega
  · exact h
  · have := laidA_lt hc ha hj h
    unfold AccLt at this
    omega
theorem kind3_pos {i : Nat} {a : Ac} (ha : (laidA bs H o n)[i]? = some a) (hk : a.kind = 3) : 0 < i ∧ a.pos = -1 ∧ ∃ c : Nat, a.block = c ∧ H c = true := by
  have hi : 0 < i := Nat.pos_of_ne_zero fun e => by
    subst e
    rw [laidA_zero] at ha
    cases ha
    cases hk
  obtain ⟨c, h1, h2, -⟩ := laidA_mem n ha hi
  rcases (blkA_mem h2).2 with ⟨h3, rfl⟩ | ⟨j, k, -, hk', rfl⟩
  · exact ⟨hi, rfl, c, rfl, h3⟩
  · rcases hk' with rfl | rfl <;> cases hk
/-- the phis' map -/
theorem pt_yes {P : List (List Int)} (hb : b < n) (hbo : (b : Int) ∈ o) (hH : H b = true) {m : Nat} (hm : m = (laidA bs H o n).length) : ptF (builtA (laidA bs H o n) l o P) m b = offA bs H o b := by
  have h1 := seg_phi (bs := bs) hb hbo hH
  have hl := (List.getElem?_eq_some_iff.1 h1).1
  have hat : ∀ {k : Nat} {y : Ac}, (builtA (laidA bs H o n) l o P)[k]? = some y → ∃ a, (laidA bs H o n)[k]? = some a ∧ y.kind = a.kind ∧ y.block = a.block ∧ y.pos = a.pos := fun {k y} h => by
    have hi := (List.getElem?_eq_some_iff.1 h).1
    rw [built_len] at hi
    have h2 := List.getElem?_eq_getElem hi
    rw [built_at h2] at h
    cases h
    exact ⟨_, h2, accD_kind.1, accD_kind.2.1, accD_kind.2.2⟩
  refine ptF_hit (built_at h1) (by rw [accD_kind.1]) (by rw [accD_kind.2.1]) (fun k y hy hk hyb => ?_) m (by omega)
  obtain ⟨a, h2, h3, h4, -⟩ := hat hy
  obtain ⟨h5, h6, -⟩ := kind3_pos h2 (by rw [← h3]; exact hk)
  exact laid_uniq h2 h1 h5 off_pos (by rw [← h4]; exact hyb) h6
theorem pt_no {P : List (List Int)} (hH : H b = false) (m : Nat) : ptF (builtA (laidA bs H o n) l o P) m b = 0 := by
  refine ptF_none (fun k y hy hk hyb => ?_) m
  have hi := (List.getElem?_eq_some_iff.1 hy).1
  rw [built_len] at hi
  have h2 := List.getElem?_eq_getElem hi
  rw [built_at h2] at hy
  cases hy
  rw [accD_kind.1] at hk
  rw [accD_kind.2.1] at hyb
  obtain ⟨-, -, c, h3, h4⟩ := kind3_pos h2 hk
  have e : c = b := by omega
  rw [e, hH] at h4
  cases h4
/-- the places' map -/
theorem at_yes {P : List (List Int)} (hb : b < n) (hbo : (b : Int) ∈ o) (hx : bs[b]? = some x) {i : Nat} {s : Ins} (hs : x[i]? = some s) {k : Int} (ha : accI b i s = [⟨k, b, i, [], []⟩]) (hk : k = 1 ∨ k = 2) {m : Nat} (hm : m = (laidA bs H o n).length) :
    atF (builtA (laidA bs H o n) l o P) m b i = ixA bs H o b x i := by
  have h1 := ix_at (H := H) hb hbo hx hs ha
  have hl := (List.getElem?_eq_some_iff.1 h1).1
  refine atF_hit (built_at h1) ix_pos (by rw [accD_kind.1]; show k ≠ 3; omega) (by rw [accD_kind.2.1]) (by rw [accD_kind.2.2]) (fun q y hy h0 hk3 hyb hyp => ?_) m (by omega)
  have hi := (List.getElem?_eq_some_iff.1 hy).1
  rw [built_len] at hi
  have h2 := List.getElem?_eq_getElem hi
  rw [built_at h2] at hy
  cases hy
  rw [accD_kind.2.1] at hyb
  rw [accD_kind.2.2] at hyp
  exact laid_uniq h2 h1 h0 ix_pos hyb hyp
/-- the access of an instruction -/
theorem ix_built {P : List (List Int)} (hb : b < n) (hbo : (b : Int) ∈ o) (hx : bs[b]? = some x) {i : Nat} {s : Ins} (hs : x[i]? = some s) {k : Int} (ha : accI b i s = [⟨k, b, i, [], []⟩]) (hk : k = 1 ∨ k = 2) :
    (builtA (laidA bs H o n) l o P)[ixA bs H o b x i]? = some ⟨k, b, i, [stF (laidA bs H o n) l o b (lastD (laidA bs H o n) b (ixA bs H o b x i))], []⟩ := by
  rw [built_at (ix_at (H := H) hb hbo hx hs ha)]
  unfold accD
  rw [if_pos hk]
  rfl
end
section
variable {bs : List (List Ins)} {sc : Int → List Int} {o l : List Int} {P : List (List Int)} {n : Nat}
/-- what is known at a block on the way -/
def GoI (bs : List (List Ins)) (sc : Int → List Int) (o l : List Int) (n : Nat) (b : Nat) (on src : Int) : Prop :=
  b < n ∧ (b : Int) ∈ o ∧ ((src = -1 ∧ b = 0 ∧ on = 0) ∨ ∃ q : Nat, src = q ∧ q < n ∧ (q : Int) ∈ o ∧ (b : Int) ∈ sc q ∧ on = endF (laidA bs (phH bs sc o) o n) l o q)
theorem go_on {b : Nat} {on src : Int} (I : IdomOk sc o n l) (O : OrderOk n sc o) (h : GoI bs sc o l n b on src) (hH : phH bs sc o b = false) : on = stF (laidA bs (phH bs sc o) o n) l o b (lastD (laidA bs (phH bs sc o) o n) b (fstA bs (phH bs sc o) o b)) := by
  obtain ⟨hb, hbo, h⟩ := h
  have hl : lastD (laidA bs (phH bs sc o) o n) b (fstA bs (phH bs sc o) o b) = -1 := by
    have e : fstA bs (phH bs sc o) o b = offA bs (phH bs sc o) o b := by unfold fstA; rw [if_neg (by rw [hH]; simp)]; rfl
    rw [e]
    exact lastD_none fun j hj => seg_before hj
  rw [hl]
  rcases h with ⟨-, rfl, rfl⟩ | ⟨q, -, hq, hqo, hs, rfl⟩
  · rw [stF_top (by omega)]
  · by_cases h0 : b = 0
    · subst h0
      exact (meet_zero (bs := bs) O (show (0 : Int) ∈ o from hbo) hH hqo hs).elim
    · obtain ⟨u, hu, -⟩ := up_at I O hbo h0
      rw [stF_up h0 hu (by omega)]
      exact meet_end I O hbo h0 hu hH hqo hs
theorem go_phi {b : Nat} (hb : b < n) (hbo : (b : Int) ∈ o) (hH : phH bs sc o b = true) : ((offA bs (phH bs sc o) o b : Nat) : Int) = stF (laidA bs (phH bs sc o) o n) l o b (lastD (laidA bs (phH bs sc o) o n) b (fstA bs (phH bs sc o) o b)) := by
  have e : fstA bs (phH bs sc o) o b = offA bs (phH bs sc o) o b + 1 := by unfold fstA; rw [if_pos hH]
  rw [e, lastD_hit ⟨off_pos, _, seg_phi hb hbo hH, rfl, by show (3 : Int) ≠ 2; omega⟩, stF_here (by omega)]
/-- the phi knows the way -/
theorem go_found {b : Nat} {on : Int} {q : Nat} (hP : P = predsL sc n) (hb : b < n) (hbo : (b : Int) ∈ o) (hH : phH bs sc o b = true) (hq : q < n) (hqo : (q : Int) ∈ o) (hs : (b : Int) ∈ sc q) (hon : on = endF (laidA bs (phH bs sc o) o n) l o q) :
    ∃ (k : Nat) (a : Ac), (builtA (laidA bs (phH bs sc o) o n) l o P)[offA bs (phH bs sc o) o b]? = some a ∧ a.orig[k]? = some (q : Int) ∧ a.defs[k]? = some on := by
  have h1 := seg_phi (bs := bs) hb hbo hH
  have hm : (q : Int) ∈ fromL P o b := by
    unfold fromL
    rw [List.mem_filter]
    refine ⟨?_, decide_eq_true hqo⟩
    have hpl : b < P.length := by rw [hP, predsL_len]; exact hb
    obtain ⟨p, hp⟩ : ∃ p, P[b]? = some p := ⟨_, List.getElem?_eq_getElem hpl⟩
    rw [Int.toNat_natCast, List.getD_eq_getElem?_getD, hp]
    rw [hP] at hp
    exact (predsL_mem hp (q : Int)).2 ⟨by omega, by omega, hs⟩
  obtain ⟨k, hk⟩ := List.mem_iff_getElem?.1 hm
  refine ⟨k, _, built_at h1, ?_, ?_⟩
  · unfold accD
    rw [if_neg (by show ¬ ((3 : Int) = 1 ∨ (3 : Int) = 2); omega), if_pos rfl]
    exact hk
  · unfold accD
    rw [if_neg (by show ¬ ((3 : Int) = 1 ∨ (3 : Int) = 2); omega), if_pos rfl]
    show ((fromL P o b).map _)[k]? = _
    rw [List.getElem?_map, hk, hon]
    rfl
theorem go_next {b t : Nat} {on src : Int} (O : OrderOk n sc o) (h : GoI bs sc o l n b on src) (ht : (t : Int) ∈ sc b) : GoI bs sc o l n t (endF (laidA bs (phH bs sc o) o n) l o b) b := by
  have hto : (t : Int) ∈ o := (O.mem t).2 ⟨by have := h.1; omega, .step ((O.mem b).1 h.2.1).2 ht⟩
  exact ⟨by have := (O.bound _ hto).2; omega, hto, .inr ⟨b, rfl, h.1, h.2.1, ht, rfl⟩⟩
end
end Go.Proofs.Ytidjaohlaljmpaa
