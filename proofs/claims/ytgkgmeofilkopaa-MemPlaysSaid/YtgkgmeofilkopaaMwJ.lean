/- Layer 9: Memory.Alloc, walked over any memory of less than a million blocks. -/
import Derived.Test.YtgkgmeofilkopaaMmE
import Derived.Test.YtgkgmeofilkopaaMwF
import Derived.Deep.RegionLaw
import Derived.Deep.AppendLies
namespace Go.Proofs.Ytgkgmeofilkopaa
open Go.RowKit
set_option linter.unusedSimpArgs false
set_option linter.unusedVariables false

theorem sized_any (n : Int) (W : World) : Calls Try.prog 82 #[.int .i64 n] W fun e w' => e = .returned (.int .i64 (sizedS n)) ∧ W = w' := by
  by_cases h0 : n < 0
  · have e : Hid (sizedS n = 0) := hide (by unfold sizedS; omega)
    go_enter Try.func82, Try.ntmps82
    go_wp2
    go_ret
    exact ⟨ret_int e.out.symm, rfl⟩
  · by_cases h1 : 4096 < n
    · have e : Hid (sizedS n = 4096) := hide (by unfold sizedS; omega)
      go_enter Try.func82, Try.ntmps82
      go_wp2
      go_ret
      exact ⟨ret_int e.out.symm, rfl⟩
    · have e : Hid (sizedS n = n) := hide (by unfold sizedS; omega)
      go_enter Try.func82, Try.ntmps82
      go_wp2
      all_goals go_ret
      all_goals exact ⟨ret_int (by rw [e.out]), rfl⟩
theorem info_Bytes : (Try.prog.info? 48).map (fun i => (i.zero, i.size, i.bytes)) = some (some (.slice none 0 0), 1, 24) := by kernel_rfl
def grown (F : Nat → Prop) (w w' : World) (k : Nat) : Prop := F k ∨ (w.heap.size ≤ k ∧ k < w'.heap.size)
theorem row_ne {w : World} {q : Nat} {l : List Byt} {c : Array Value} {T : TypeId} {f : Nat × Nat} {k : Nat} (h : Row w q l) (hk : w.heap[k]? = some (.cells c T f)) (hT : T ≠ 54) : q ≠ k := by
  rintro rfl
  rw [Row, hk] at h
  injection h with h
  injection h with _ ht
  exact hT ht
theorem own_eq {q o n c k : Nat} (h : (Value.slice (some ⟨q, o, none⟩) n c).ownBlock = some k) : k = q := by simpa [Value.ownBlock] using h.symm
theorem own_at {w : World} {base : Nat} {e : TypeId} {size : Nat} {v : Value} {n : Nat} {xs : List Value} {k : Nat} (h : w.ownsRow base e size v n xs) (hk : v.ownBlock = some k) : ∃ c, w.heap[k]? = some (.cells c e (0, 0)) := by
  rcases h.2 with ⟨rfl, _⟩ | ⟨B, C, cur, rfl, _, hB, _⟩
  · cases hk
  · cases hk; exact ⟨cur, hB⟩
theorem alloc_done {w w1 : World} {g m C B cap : Nat} {A : Option Addr} {F : Nat → Prop} {bs : MemS} {vs : List Value} (hm : m ≤ 4096)
    (h1 : w.heap[g]? = some (.cells #[.slice A bs.length C] 127 (0, 0))) (h2 : w.ownsRow 0 48 1 (.slice A bs.length C) bs.length vs)
    (h3 : ∀ k, (Value.slice A bs.length C).ownBlock = some k → F k)
    (h4 : ∀ (i : Nat) x b, vs[i]? = some x → bs[i]? = some b → SlV w x b ∧ ∀ q, x.ownBlock = some q → F q)
    (h5 : ∀ (i j : Nat) x y q, i ≠ j → vs[i]? = some x → vs[j]? = some y → x.ownBlock = some q → y.ownBlock ≠ some q)
    (hg : F g) (hl : ∀ k, F k → k < w.heap.size) (hgne : some g ≠ (Value.slice A bs.length C).ownBlock)
    (hown : w1.ownsRow 0 48 1 (.slice (some ⟨B, 0, none⟩) (bs.length + 1) cap) (bs.length + 1) (vs ++ [.slice (some ⟨w.heap.size, 0, none⟩) m m]))
    (hgrow : ((w.alloc (.cells (rowC (List.replicate m zb)) 54)).alloc (.cells #[.slice (some ⟨w.heap.size, 0, none⟩) m m] 48)).drew.grownBy w1 (Value.slice A bs.length C).ownBlock)
    (hat : (Value.slice A bs.length C).ownBlock = some B ∨ B = w.heap.size + 2) (hlt : B < w1.heap.size) (hg1 : w1.heap[g]? = some (.cells #[.slice A bs.length C] 127 (0, 0))) :
    MemIs (w1.setCell ⟨g, 0, none⟩ (.slice (some ⟨B, 0, none⟩) (bs.length + 1) cap)) g (grown F w (w1.setCell ⟨g, 0, none⟩ (.slice (some ⟨B, 0, none⟩) (bs.length + 1) cap))) (bs ++ [some (List.replicate m zb)]) ∧
    Upd F w (w1.setCell ⟨g, 0, none⟩ (.slice (some ⟨B, 0, none⟩) (bs.length + 1) cap)) := by
  have hsz : (w1.setCell ⟨g, 0, none⟩ (.slice (some ⟨B, 0, none⟩) (bs.length + 1) cap)).heap.size = w1.heap.size := by simp [World.setCell]
  have hs2 : ((w.alloc (.cells (rowC (List.replicate m zb)) 54)).alloc (.cells #[.slice (some ⟨w.heap.size, 0, none⟩) m m] 48)).drew.heap.size = w.heap.size + 2 := by simp [World.drew]
  have hws : w.heap.size + 2 ≤ w1.heap.size := by have := hgrow.size; omega
  have hbel : Below w.heap.size w ((w.alloc (.cells (rowC (List.replicate m zb)) 54)).alloc (.cells #[.slice (some ⟨w.heap.size, 0, none⟩) m m] 48)).drew := (((Below.refl _ _).alloc (Nat.le_refl _) _).alloc (by simp) _).drew
  have far : ∀ k, k < w.heap.size → k ≠ g → some k ≠ (Value.slice A bs.length C).ownBlock → (w1.setCell ⟨g, 0, none⟩ (.slice (some ⟨B, 0, none⟩) (bs.length + 1) cap)).heap[k]? = w.heap[k]? := fun k hk h6 h7 =>
    ((Below.heap_setCell w1 ⟨g, 0, none⟩ _ k h6).trans (hgrow.block k (by omega) h7)).trans (hbel.block k hk)
  have hgw := hl g hg
  have hvl : vs.length = bs.length := by have := h2.1; omega
  have hBg : B ≠ g := by
    rintro rfl
    obtain ⟨c, hc⟩ := own_at hown (k := B) rfl
    rw [hc] at hg1
    injection hg1 with hg1
    injection hg1 with _ ht
    exact absurd ht (by decide)
  have hF : ∀ k, F k → grown F w (w1.setCell ⟨g, 0, none⟩ (.slice (some ⟨B, 0, none⟩) (bs.length + 1) cap)) k := fun k hk => .inl hk
  have hq : (w1.setCell ⟨g, 0, none⟩ (.slice (some ⟨B, 0, none⟩) (bs.length + 1) cap)).heap[w.heap.size]? = some (.cells (rowC (List.replicate m zb)) 54 (0, 0)) := by
    rw [Below.heap_setCell w1 ⟨g, 0, none⟩ _ _ (by show w.heap.size ≠ g; omega), hgrow.block _ (by omega) (fun e => by have := hl _ (h3 _ e.symm); omega)]
    exact box_under w _ _
  have hre : ∀ (i : Nat) x b, vs[i]? = some x → bs[i]? = some b → SlV (w1.setCell ⟨g, 0, none⟩ (.slice (some ⟨B, 0, none⟩) (bs.length + 1) cap)) x b := fun i x b hx hb => by
    obtain ⟨a1, a2⟩ := h4 i x b hx hb
    cases b with
    | none => exact a1
    | some l =>
      obtain ⟨o1, o2, q, rfl, hrow⟩ := a1
      refine ⟨o1, o2, q, rfl, ?_⟩
      refine (far q (hl q (a2 q rfl)) (row_ne hrow h1 (by decide)) (fun e => ?_)).trans hrow
      obtain ⟨c, hc⟩ := own_at h2 e.symm
      exact row_ne hrow hc (by decide) rfl
  refine ⟨⟨⟨_, vs ++ [.slice (some ⟨w.heap.size, 0, none⟩) m m], set_one hg1, ?_, ?_, ?_, ?_⟩, hF g hg, ?_⟩, ?_⟩
  · rw [List.length_append, List.length_singleton]
    exact ownsRow_kept hown fun k hk => by cases hk; exact Below.heap_setCell w1 ⟨g, 0, none⟩ _ _ hBg
  · intro k hk
    obtain rfl := own_eq hk
    rcases hat with hat | rfl
    · exact hF _ (h3 _ hat)
    · exact .inr ⟨by omega, by rw [hsz]; exact hlt⟩
  · intro i x b hx hb
    rcases Nat.lt_or_ge i bs.length with hi | hi
    · rw [List.getElem?_append_left (by omega)] at hx hb
      exact ⟨hre i x b hx hb, fun q hq' => hF q ((h4 i x b hx hb).2 q hq')⟩
    · rw [List.getElem?_append_right (by omega)] at hx hb
      have e0 : i - bs.length = 0 := by have := (List.getElem?_eq_some_iff.1 hb).1; simp at this; omega
      rw [e0] at hb
      rw [hvl, e0] at hx
      cases hb
      cases hx
      refine ⟨⟨?_, by simp; omega, w.heap.size, by simp, hq⟩, fun q hq' => by rw [own_eq hq']; exact .inr ⟨Nat.le_refl _, by rw [hsz]; omega⟩⟩
      intro b hb
      rw [List.eq_of_mem_replicate hb]
      exact ⟨Int.le_refl _, by show (0 : Int) ≤ 255; decide⟩
  · intro i j x y q hij hx hy hq1 hq2
    have key : ∀ (i : Nat) x, (vs ++ [Value.slice (some ⟨w.heap.size, 0, none⟩) m m])[i]? = some x → (i < bs.length ∧ vs[i]? = some x) ∨ (i = bs.length ∧ x = .slice (some ⟨w.heap.size, 0, none⟩) m m) := fun i x hx => by
      rcases Nat.lt_or_ge i bs.length with hi | hi
      · rw [List.getElem?_append_left (by omega)] at hx; exact .inl ⟨hi, hx⟩
      · rw [List.getElem?_append_right (by omega)] at hx
        have e0 : i - vs.length = 0 := by have := (List.getElem?_eq_some_iff.1 hx).1; simp at this; omega
        rw [e0] at hx
        cases hx
        exact .inr ⟨by omega, rfl⟩
    have old : ∀ (i : Nat) x, vs[i]? = some x → x.ownBlock = some q → q < w.heap.size := fun i x hx hq => by
      have hi := (List.getElem?_eq_some_iff.1 hx).1
      exact hl q ((h4 i x _ hx (List.getElem?_eq_getElem (by omega))).2 q hq)
    rcases key i x hx with ⟨i1, i2⟩ | ⟨i1, rfl⟩
    · rcases key j y hy with ⟨j1, j2⟩ | ⟨j1, rfl⟩
      · exact h5 i j x y q hij i2 j2 hq1 hq2
      · have := old i x i2 hq1
        have := own_eq hq2
        omega
    · rcases key j y hy with ⟨j1, j2⟩ | ⟨j1, rfl⟩
      · have := old j y j2 hq2
        have := own_eq hq1
        omega
      · omega
  · intro k hk
    rw [hsz]
    rcases hk with hk | ⟨_, hk⟩
    · have := hl k hk; omega
    · rw [hsz] at hk; exact hk
  · refine ⟨hgrow.os.trans hbel.os, hgrow.tape.trans hbel.tape, hgrow.output.trans hbel.output, by rw [hsz]; omega, fun k hk hn => far k hk (fun e => hn (e ▸ hg)) (fun e => hn (h3 k e.symm))⟩
def AllocPost (g : Nat) (F : Nat → Prop) (bs : MemS) (n : Int) (w : World) (e : Ending) (w' : World) : Prop :=
  e = .returned (.int .i64 bs.length) ∧ MemIs w' g (grown F w w') (allocS bs n) ∧ Upd F w w'
set_option maxRecDepth 100000 in
set_option maxHeartbeats 3200000 in
theorem alloc_any (g : Nat) (F : Nat → Prop) (bs : MemS) (n : Int) (w : World) (h : MemIs w g F bs) (hs : bs.length ≤ 1000000) :
    Calls Try.prog 48 #[.pointer (some ⟨g, 0, none⟩), .int .i64 n] w (AllocPost g F bs n w) := by
  obtain ⟨m, hm⟩ : ∃ m : Nat, Hid ((sizedS n).toNat = m) := ⟨_, hide rfl⟩
  have hm8 : m ≤ 4096 := by have := hm.out; unfold sizedS at this; omega
  have cS : Hid (∀ W, Calls Try.prog 82 #[.int .i64 n] W fun e w' => e = .returned (.int .i64 (m : Int)) ∧ W = w') := hide (fun W => by
    have h1 := sized_any n W
    have h2 : sizedS n = (m : Int) := by have := hm.out; unfold sizedS at *; omega
    rwa [h2] at h1)
  obtain ⟨⟨v, vs, h1, h2, h3, h4, h5⟩, hg, hl⟩ := h
  have c0 := one_cell h1
  have f0 := one_free (j := 0) h1
  obtain ⟨A, C, hv⟩ : ∃ A C, v = .slice A bs.length C := by
    rcases h2.2 with ⟨rfl, h0⟩ | ⟨B, C, cur, rfl, _⟩
    · exact ⟨none, 0, by rw [h0]⟩
    · exact ⟨_, C, rfl⟩
  have hgl := hl g hg
  obtain ⟨L, hL⟩ : ∃ L, Hid (L = bs.length) := ⟨_, hide rfl⟩
  rw [← hL.out] at h2 hs hv
  replace h1 := hide h1
  replace h2 := hide h2
  replace h3 := hide h3
  replace h4 := hide h4
  replace h5 := hide h5
  replace hl := hide hl
  replace hg := hide hg
  subst hv
  obtain ⟨i0, hi0, hz0, hz1, hz2⟩ := info_parts info_Byte
  obtain ⟨j0, hj0, hj1, hj2, hj3⟩ := info_parts info_Bytes
  replace hi0 := hide hi0
  replace hz0 := hide hz0
  replace hz1 := hide hz1
  replace hz2 := hide hz2
  replace hj0 := hide hj0
  replace hj1 := hide hj1
  replace hj2 := hide hj2
  replace hj3 := hide hj3
  go_enter Try.func48, Try.ntmps48
  go_upto_region 1 with (fail)
  have hmk : ∀ w', (Instr.makeSlice 48 (.int .i64 (m : Int)) (.int .i64 (m : Int))).run Try.prog w' = .ok (.slice (some ⟨w'.heap.size, 0, none⟩) m m) (w'.alloc (.cells (rowC (List.replicate m zb)) 54)) := fun w' => by
    have e := run_make (P := Try.prog) w' 48 54 i0 _ Try.underlying48 hi0.out hz0.out .i64 .i64 m m (by omega) (Int.le_refl _) (by rw [hz2.out]; omega) (by omega)
    rw [e, Int.toNat_natCast, hz1.out]
    congr 3
    exact rowC_zero m
  have hnb : Hid (((w.alloc (.cells (rowC (List.replicate m zb)) 54)).alloc (.cells #[.slice (some ⟨w.heap.size, 0, none⟩) m m] 48)).heap[w.heap.size + 1]? = some (.cells #[.slice (some ⟨w.heap.size, 0, none⟩) m m] 48 (0, 0))) := hide (by
    have e := heap_alloc_new (w.alloc (.cells (rowC (List.replicate m zb)) 54)) (.cells #[.slice (some ⟨w.heap.size, 0, none⟩) m m] 48)
    simpa using e)
  have hga : Hid (((w.alloc (.cells (rowC (List.replicate m zb)) 54)).alloc (.cells #[.slice (some ⟨w.heap.size, 0, none⟩) m m] 48)).heap[g]? = some (.cells #[.slice A L C] 127 (0, 0))) := hide (one_alloc (one_alloc h1.out _) _)
  have hgne : Hid (some g ≠ (Value.slice A L C).ownBlock) := hide (by
    intro e
    rcases h2.out.2 with ⟨hn, _⟩ | ⟨B, C', cur, hn, _, hB, _⟩
    · rw [hn] at e; cases e
    · rw [hn] at e
      cases e
      have := h1.out
      rw [hB] at this
      injection this with this
      injection this with _ ht
      exact absurd ht (by decide))
  go_region_law (first | (go_simp; go_at_call 82; refine (cS.out _).mono ?_; rintro e w' ⟨rfl, rfl⟩) | (refine step_append_lies _ (by rfl) (.tmp 9) (.tmp 13) 81 (by rfl) 0 48 j0 (.slice none 0 0) 1 24 Try.underlying81 hj0.out hj1.out hj2.out hj3.out (by rfl) (by omega) (.slice A L C) L vs (by rfl) (by exact (h2.out.alloc _).alloc _) ⟨w.heap.size + 1, 0, none⟩ 1 1 [.slice (some ⟨w.heap.size, 0, none⟩) m m] (by rfl) (by rfl) (by exact World.news_of_block (cs := #[.slice (some ⟨w.heap.size, 0, none⟩) m m]) hnb.out) (by simp [Value.oneCell']) (by omega) (by unfold maxLen; omega) (by omega) (Nat.zero_le _) (w.heap.size + 2) (by simp) ?_; intro B cap w1 hown hgrow hat hlt; have hg1 := hide ((hgrow.block g (by simp; omega) hgne.out).trans hga.out); have c1 := one_cell hg1.out; have f1 := one_free (j := 0) hg1.out; replace hown := hide hown; replace hgrow := hide hgrow; replace hat := hide hat; replace hlt := hide hlt))
  all_goals
    have hdone := hide (alloc_done hm8 (by rw [← hL.out]; exact h1.out) (by rw [← hL.out]; exact h2.out) (by rw [← hL.out]; exact h3.out) h4.out h5.out hg.out hl.out (by rw [← hL.out]; exact hgne.out) (by rw [← hL.out]; exact hown.out) (by rw [← hL.out]; exact hgrow.out) (by rw [← hL.out]; exact hat.out) hlt.out (by rw [← hL.out]; exact hg1.out))
    rw [← hL.out] at hdone
    have d0 := one_cell (set_one (v := .slice (some ⟨B, 0, none⟩) (L + 1) cap) hg1.out)
    obtain ⟨w4, hw4⟩ : ∃ w4, w4 = w1.setCell ⟨g, 0, none⟩ (.slice (some ⟨B, 0, none⟩) (L + 1) cap) := ⟨_, rfl⟩
    rw [← hw4] at hdone d0 ⊢
    clear hw4 c1 f1 hg1 hown hgrow hat hlt c0 f0
    go_wp2
    go_ret
    unfold AllocPost
    refine ⟨?_, ?_, hdone.out.2⟩
    · rw [← hL.out]; first | rfl | (show Ending.returned (.int .i64 ((L : Int) + 1 - 1)) = _; congr 2; omega)
    · have := hdone.out.1
      rw [← hm.out] at this
      exact this
end Go.Proofs.Ytgkgmeofilkopaa
