/- Layer 9: mem.New, walked, at less than a million sizes. -/
import Derived.Test.YtgkgmeofilkopaaMwJ
namespace Go.Proofs.Ytgkgmeofilkopaa
open Go.RowKit
set_option linter.unusedSimpArgs false
set_option linter.unusedVariables false

def RNum : Rp Int := .plain (fun n => [.int .i64 n]) fun _ => True
abbrev oneB : Byt := ⟨1, 0, 0, 0, 0⟩
def onesTo (j m : Nat) : List Byt := (List.range m).map fun i => if i < j then oneB else zb
theorem onesTo_len (j m : Nat) : (onesTo j m).length = m := by simp [onesTo]
theorem onesTo_zero (m : Nat) : onesTo 0 m = List.replicate m zb := by
  apply List.ext_getElem?; intro i; simp only [onesTo, List.getElem?_replicate, List.getElem?_map, Nat.not_lt_zero, if_false]
  by_cases h : i < m
  · rw [if_pos h, List.getElem?_range h]; rfl
  · rw [if_neg h, List.getElem?_eq_none (by simpa using h)]; rfl
theorem onesTo_full (m : Nat) : onesTo m m = List.replicate m oneB := by
  apply List.ext_getElem?; intro i; simp only [onesTo, List.getElem?_replicate, List.getElem?_map]
  by_cases h : i < m
  · rw [if_pos h, List.getElem?_range h, Option.map_some, if_pos h]
  · rw [if_neg h, List.getElem?_eq_none (by simpa using h)]; rfl
theorem onesTo_at {j m : Nat} (h : j < m) : (onesTo j m)[j]? = some zb := by simp [onesTo, h]
theorem onesTo_set {j m : Nat} (h : j < m) : (onesTo j m).set j oneB = onesTo (j + 1) m := by
  apply List.ext_getElem?
  intro i
  simp only [onesTo, List.getElem?_set, List.getElem?_map, List.length_map, List.length_range]
  by_cases hi : i < m
  · rw [List.getElem?_range hi]
    by_cases c : j = i
    · subst c; simp [h]
    · rw [if_neg c]
      by_cases c2 : i < j
      · simp [c2, show i < j + 1 by omega]
      · simp [c2, show ¬ i < j + 1 by omega]
  · rw [if_neg (by omega)]
    simp [List.getElem?_eq_none (l := List.range m) (by simpa using (by omega : m ≤ i))]
theorem onesTo_ok (j m : Nat) : OkB (onesTo j m) := by
  intro b hb
  obtain ⟨i, -, rfl⟩ := List.mem_map.1 hb
  split <;> exact ⟨Int.le_refl _, by show (0 : Int) ≤ 255; decide⟩
theorem newS_snoc {sizes : List Int} {k : Nat} {n : Int} (h : sizes[k]? = some n) : newS (sizes.take (k + 1)) = newS (sizes.take k) ++ [some (List.replicate (sizedS n).toNat oneB)] := by
  rw [List.take_add_one, h]; simp [newS]
theorem newS_len (sizes : List Int) : (newS sizes).length = sizes.length := by simp [newS]
/-- a new memory, all of it new -/
def NewIs (B : Nat) (w : World) (g : Nat) (bs : MemS) : Prop := ∃ F, MemIs w g F bs ∧ ∀ k, F k → B ≤ k
def NewPost (sizes : List Int) (W : World) (e : Ending) (w' : World) : Prop :=
  ∃ g, e = .returned (.pointer (some ⟨g, 0, none⟩)) ∧ NewIs W.heap.size w' g (newS sizes) ∧ Below W.heap.size W w'
theorem empty_is {w : World} {g : Nat} (h : w.heap[g]? = some (.cells #[.slice none 0 0] 127 (0, 0))) : MemIs w g (fun k => k = g) [] :=
  ⟨⟨.slice none 0 0, [], h, World.ownsRow_nil w 0 _ 1, fun k hk => (by cases hk), fun i x b hx => (by simp at hx), fun i j x y q _ hx => (by simp at hx)⟩, rfl, fun k hk => by subst hk; exact (Array.getElem?_eq_some_iff.1 h).1⟩
set_option maxRecDepth 100000 in
set_option maxHeartbeats 3200000 in
theorem new_any (sizes : List Int) (c : Value) (w : World) (hr : (Rp.slice 1 RNum).rep w w.heap.size [c] sizes) (hs : sizes.length ≤ 100000) :
    Calls Try.prog 47 #[c] w (NewPost sizes w) := by
  obtain ⟨A, cap, hc, hl9, hcells⟩ := Rp.slice1_open hr
  cases hc
  replace hcells := hide hcells
  clear hr
  obtain ⟨n, hn⟩ : ∃ n, Hid (n = sizes.length) := ⟨_, hide rfl⟩
  rw [← hn.out] at hl9 hs ⊢
  have hself := Below.refl w.heap.size w
  go_enter Try.func47, Try.ntmps47
  go_wp2_with fail
  have hb0 := (Below.refl w.heap.size w).alloc (Nat.le_refl _) (.cells #[.slice none 0 0] 127)
  have hm0 : NewIs w.heap.size (w.alloc (.cells #[.slice none 0 0] 127)) w.heap.size [] := ⟨_, empty_is (box_top w _), fun k hk => by omega⟩
  go_loopw [12] (fun s wr => ∃ k : Nat, k ≤ n ∧ s = .int .i64 k ∧ Hid (NewIs w.heap.size wr w.heap.size (newS (sizes.take k))) ∧ Below w.heap.size w wr) (fun s _ => n - (intOf s).toNat)
  case atStart => exact ⟨0, Nat.zero_le _, rfl, hide hm0, hb0⟩
  case round =>
    clear hb0 hm0
    obtain ⟨k, hk, rfl, hm, hbel⟩ := hrel
    by_cases hlt : k < n
    · obtain ⟨z, hz⟩ := get_ex (l := sizes) (k := k) (by rw [← hn.out]; exact hlt)
      obtain ⟨b1, o1, rfl, he1⟩ := hcells.out (by rw [← hn.out]; omega)
      obtain ⟨d1, ⟨hd0, -⟩, hd1⟩ := he1 k z hz.out
      cases hd0
      obtain ⟨F, hM, hF⟩ := hm.out
      have hA := hide (alloc_any w.heap.size F _ z wr hM (by rw [newS_len, List.length_take]; omega))
      replace hM := hide hM
      clear he1
      have hsn := hide (newS_snoc hz.out)
      go_wp2_with fail
      refine hA.out.mono ?_
      rintro e w1 ⟨rfl, hM1, hU1⟩
      have hkl : Hid ((newS (sizes.take k)).length = k) := hide (by rw [newS_len, List.length_take]; have := hn.out; omega)
      rw [hkl.out]
      obtain ⟨m, hmm⟩ : ∃ m : Nat, Hid ((sizedS z).toNat = m) := ⟨_, hide rfl⟩
      have hm8 : m ≤ 4096 := by have := hmm.out; unfold sizedS at this; omega
      have hb1 : Below w.heap.size w w1 := hbel.trans (hU1.below hbel.size hF)
      have hF1 : Hid (∀ i, grown F wr w1 i → w.heap.size ≤ i) := hide (fun i hi => by
        rcases hi with hi | hi
        · exact hF i hi
        · have := hbel.size; omega)
      unfold allocS at hM1
      rw [hmm.out, ← onesTo_zero] at hM1
      rw [hmm.out] at hsn
      obtain ⟨F1, hFF⟩ : ∃ F1, F1 = grown F wr w1 := ⟨_, rfl⟩
      rw [← hFF] at hM1 hF1
      clear hFF hU1
      obtain ⟨B, C, -, -, -, hC1, hC2, h1, h2⟩ := hM1.head (by simp)
      obtain ⟨x, ⟨-, -, q, rfl, -⟩, -, h3⟩ := h2 k (some (onesTo 0 m)) (by rw [List.getElem?_append_right (by rw [hkl.out]; exact Nat.le_refl _), hkl.out, Nat.sub_self]; rfl)
      rw [List.length_append, List.length_singleton, hkl.out] at h1 hC1
      rw [onesTo_len] at h3
      have c1 := h1 w1 (Below.refl _ _)
      have c2 := h3 w1 (Below.refl _ _)
      clear h1 h2 h3
      replace hM1 := hide hM1
      go_wp2_with fail
      go_loopw [27] (fun s wr => ∃ j : Nat, j ≤ m ∧ s = .int .i64 j ∧ Hid (MemIs wr w.heap.size F1 (newS (sizes.take k) ++ [some (onesTo j m)])) ∧ Below w.heap.size w wr) (fun s _ => m - (intOf s).toNat)
      case atStart => exact ⟨0, Nat.zero_le _, rfl, hM1, hb1⟩
      case round =>
        obtain ⟨j, hj, rfl, hM2, hb2⟩ := hrel
        by_cases hlt2 : j < m
        · obtain ⟨B2, C2, hg2, hB2, -, hC3, hC4, h1, h2⟩ := hM2.out.head (by simp)
          obtain ⟨x, hsl, ⟨hqF, hat⟩, h3⟩ := h2 k (some (onesTo j m)) (by rw [List.getElem?_append_right (by rw [hkl.out]; exact Nat.le_refl _), hkl.out, Nat.sub_self]; rfl)
          obtain ⟨-, -, q2, rfl, hrow⟩ := id hsl
          rw [List.length_append, List.length_singleton, hkl.out] at h1 hC3
          have e1 := h1 wr (Below.refl _ _)
          have e2 := h3 wr (Below.refl _ _)
          rw [onesTo_len] at e2
          obtain ⟨y0, -, -, -, -⟩ := hrow.cells (onesTo_at hlt2)
          have g0 := one_free (j := j * 5) hrow
          clear h1 h2 h3 c1 c2
          have hput := hide (MemIs.put (k := k) (l' := onesTo (j + 1) m) (w' := wr.setCell ⟨q2, j * 5, none⟩ (.int .i64 1)) hM2.out (by rw [List.getElem?_append_right (by rw [hkl.out]; exact Nat.le_refl _), hkl.out, Nat.sub_self]; rfl) hsl hat (by rw [← onesTo_set hlt2]; exact hrow.putKind (onesTo_at hlt2) 1) (by rw [onesTo_len, onesTo_len]) (onesTo_ok _ _) (fun i hi hne => Below.heap_setCell _ _ _ _ hne) (by simp [World.setCell]))
          have hb3 := hb2.setCell (p := ⟨q2, j * 5, none⟩) (hF1.out q2 (hqF q2 rfl)) (.int .i64 1)
          have hset : Hid ((newS (sizes.take k) ++ [some (onesTo j m)]).set k (some (onesTo (j + 1) m)) = newS (sizes.take k) ++ [some (onesTo (j + 1) m)]) := hide (by
            rw [List.set_append_right _ _ (by rw [hkl.out]; exact Nat.le_refl _), hkl.out, Nat.sub_self]; rfl)
          rw [hset.out] at hput
          replace hat := hide hat
          replace hrow := hide hrow
          replace hsl := hide hsl
          replace hqF := hide hqF
          replace hb3 := hide hb3
          go_wp2
          go_roundw
          case rel => exact ⟨j + 1, by omega, by go_num, hput, hb3.out⟩
          case measure => simp [intOf]; omega
        · obtain rfl : j = m := by omega
          clear c1 c2
          go_wp2
          go_roundw
          case rel => exact ⟨k + 1, by omega, by go_num, hide ⟨F1, by rw [hsn.out, ← onesTo_full]; exact hM2.out, hF1.out⟩, hb2⟩
          case measure => simp [intOf]; omega
    · obtain rfl : k = n := by omega
      go_wp2
      go_ret
      refine ⟨w.heap.size, rfl, ?_, hbel⟩
      have := hm.out
      rw [hn.out, List.take_length] at this
      exact this
end Go.Proofs.Ytgkgmeofilkopaa
