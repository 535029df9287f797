/- Layer 9: Memory.Size and Bytes, walked over any memory. No condition. -/
import Derived.Test.YtgkgmeofilkopaaMmQ
import Derived.Test.YtgkgmeofilkopaaOwB
import Derived.Test.YtgkgmeofilkopaaMwH
import Derived.Lib.SliceRun
namespace Go.Proofs.Ytgkgmeofilkopaa
open Go.RowKit
set_option linter.unusedSimpArgs false
set_option linter.unusedVariables false

theorem size_any (g : Nat) (F : Nat → Prop) (bs : MemS) (i : Int) (w : World) (h : MemIs w g F bs) :
    Calls Try.prog 51 #[.pointer (some ⟨g, 0, none⟩), .int .i64 i] w fun e w' => e = .returned (.int .i64 (sizeS bs i)) ∧ w = w' := by
  have hal := hide (alive_any g F bs i w w h (Below.refl _ _))
  cases hb : bytesAt bs i with
  | none =>
    rw [hb] at hal
    have e0 : Hid (sizeS bs i = -1) := hide (by unfold sizeS; rw [hb])
    clear h hb
    go_enter Try.func51, Try.ntmps51
    go_wp2_with (go_at_call 84; refine hal.out.mono ?_; rintro e w' ⟨rfl, rfl⟩)
    go_ret
    exact ⟨ret_int e0.out.symm, rfl⟩
  | some l =>
    rw [hb] at hal
    have e0 : Hid (sizeS bs i = l.length) := hide (by unfold sizeS; rw [hb])
    obtain ⟨k, rfl, h0⟩ := bytesAt_some hb
    have hk := (List.getElem?_eq_some_iff.1 h0).1
    obtain ⟨B, C, -, -, -, -, -, h1, h2⟩ := h.head (by omega)
    obtain ⟨x, ⟨-, -, q, rfl, -⟩, -, h3⟩ := h2 k _ h0
    have c1 := h1 w (Below.refl _ _)
    have c2 := h3 w (Below.refl _ _)
    clear h h1 h2 h3 hb h0
    obtain ⟨n, hn⟩ : ∃ n, n = bs.length := ⟨_, rfl⟩
    rw [← hn] at c1 hk
    clear hn
    go_enter Try.func51, Try.ntmps51
    go_wp2_with (go_at_call 84; refine hal.out.mono ?_; rintro e w' ⟨rfl, rfl⟩)
    go_ret
    exact ⟨ret_int e0.out.symm, rfl⟩
/-- a copy of these bytes -/
def BytesPost (l : List Byt) (w : World) (e : Ending) (w' : World) : Prop := ∃ A c, e = .returned (.slice A l.length c) ∧ OwnB w' w.heap.size (.slice A l.length c) l ∧ Below w.heap.size w w'
theorem bytes_nil (w : World) : BytesPost [] w (.returned (.slice none 0 0)) w := ⟨none, 0, rfl, ⟨rfl, .inl ⟨rfl, rfl⟩⟩, Below.refl _ _⟩
set_option maxRecDepth 100000 in
theorem clone_bytes (q : Nat) (l : List Byt) (w : World) (h : Row w q l) (hm : l.length ≤ 4096) :
    Calls Try.prog 85 #[.slice (some ⟨q, 0, none⟩) l.length l.length] w (BytesPost l w) := by
  obtain ⟨i0, hi0, hz0, hz1, hz2⟩ := info_parts info_Byte
  replace hi0 := hide hi0
  replace hz0 := hide hz0
  replace hz1 := hide hz1
  replace hz2 := hide hz2
  have hown0 := hide (World.ownsRow_lit (base := w.heap.size) (e := 54) (size := 5) w #[] 0 (Nat.le_refl _) (Nat.zero_le _) rfl)
  have hsrc := hide (Row.src (h.alloc (.cells #[] 54)))
  have hb0 := hide ((Below.refl w.heap.size w).alloc (Nat.le_refl _) (.cells #[] 54))
  obtain ⟨n, hn⟩ : ∃ n, Hid (n = l.length) := ⟨_, hide rfl⟩
  rw [← hn.out] at hm ⊢
  have hnil : ∀ w' : World, (binOp .eql 48 (.slice (some ⟨q, 0, none⟩) n n) (.slice none 0 0)).run Try.prog w' = .ok (.bool false) w' := fun w' => Lib.run_eql_slice_nil w' _ _ _ _ _ _ _ Try.underlying48
  clear h
  go_enter Try.func85, Try.ntmps85
  go_wp2_with (at_builtin; refine wpList_append_any _ rfl (.tmp 5) (.tmp 6) _ rfl w.heap.size 54 i0 _ 5 40 Try.underlying48 hi0.out hz0.out hz1.out hz2.out rfl (by omega) (.slice (some ⟨w.heap.size, 0, none⟩) 0 0) 0 [] rfl hown0.out (some ⟨q, 0, none⟩) n n (l.flatMap bc) rfl (by first | (rw [flat_len, ← hn.out]) | (have h := flat_len l; rw [List.length_flatMap] at h; rw [h, ← hn.out])) (by intro e; cases e) (by intro ad had j u hu; cases had; exact hsrc.out j u hu) (bc_one _) (by unfold maxLen; omega) (by omega) (by simp) ?_; intro v1 Y hownY hgY; replace hownY := hide hownY; replace hgY := hide hgY)
  have hbY : Hid (Below w.heap.size w Y) := hide (hb0.out.grown hgY.out (by simp) (fun k hk => by simp [Value.ownBlock] at hk; omega))
  have ho : Hid (w.heap.size = w.heap.size) := hide rfl
  obtain ⟨A1, c1, rfl⟩ : ∃ A1 c1, v1 = .slice A1 n c1 := by
    rcases hownY.out.2 with ⟨h1, h2⟩ | ⟨g, cp, cur, h1, h2, _⟩
    · exact ⟨none, 0, by rw [h1]; congr 1; omega⟩
    · exact ⟨_, cp, by first | (rw [h1]; done) | (rw [h1]; congr 1; omega)⟩
  go_wp2
  go_ret
  refine ⟨A1, c1, by rw [← hn.out]; rfl, ?_, hbY.out⟩
  have := hownY.out
  unfold OwnB
  rw [← hn.out]
  simpa using this
theorem bytes_any (g : Nat) (F : Nat → Prop) (bs : MemS) (i : Int) (w : World) (h : MemIs w g F bs) :
    Calls Try.prog 50 #[.pointer (some ⟨g, 0, none⟩), .int .i64 i] w (BytesPost (bytesS bs i) w) := by
  have hal := hide (alive_any g F bs i w w h (Below.refl _ _))
  cases hb : bytesAt bs i with
  | none =>
    rw [hb] at hal
    have e0 : Hid (bytesS bs i = []) := hide (by unfold bytesS; rw [hb]; rfl)
    clear h hb
    go_enter Try.func50, Try.ntmps50
    go_wp2_with (go_at_call 84; refine hal.out.mono ?_; rintro e w' ⟨rfl, rfl⟩)
    go_ret
    rw [e0.out]
    exact bytes_nil w
  | some l =>
    rw [hb] at hal
    have e0 : Hid (bytesS bs i = l) := hide (by unfold bytesS; rw [hb]; rfl)
    obtain ⟨k, rfl, h0⟩ := bytesAt_some hb
    have hk := (List.getElem?_eq_some_iff.1 h0).1
    obtain ⟨B, C, -, -, -, -, -, h1, h2⟩ := h.head (by omega)
    obtain ⟨x, ⟨-, hm, q, rfl, hrow⟩, -, h3⟩ := h2 k _ h0
    have c1 := h1 w (Below.refl _ _)
    have c2 := h3 w (Below.refl _ _)
    have hcl := hide (clone_bytes q l w hrow hm)
    clear h h1 h2 h3 hb h0 hrow
    obtain ⟨n, hn⟩ : ∃ n, n = bs.length := ⟨_, rfl⟩
    rw [← hn] at c1 hk
    clear hn
    go_enter Try.func50, Try.ntmps50
    go_wp2_with (first | (go_at_call 84; refine hal.out.mono ?_; rintro e w' ⟨rfl, rfl⟩) | (go_at_call 85; refine hcl.out.mono ?_; rintro e w2 ⟨A, c, rfl, hO, hb2⟩; replace hO := hide hO; replace hb2 := hide hb2))
    go_ret
    rw [e0.out]
    exact ⟨A, c, rfl, hO.out, hb2.out⟩
end Go.Proofs.Ytgkgmeofilkopaa
