/- Layer 9's reference: Copy, Alloc, New, walked. No condition but less than a million blocks. -/
import Derived.Test.YtgkgmeofilkopaaRwA
namespace Go.Proofs.Ytgkgmeofilkopaa
open Go.RowKit
set_option linter.unusedSimpArgs false
set_option linter.unusedVariables false

theorem info_Blk : (Try.prog.info? 137).map (fun i => (i.zero, i.size, i.bytes)) = some (some (.agg #[.bool false, .slice none 0 0]), 2, 32) := by kernel_rfl
/-- a memory, all of it new -/
def RNewPost (bs : MemS) (w : World) (e : Ending) (w' : World) : Prop := ∃ v, e = .returned v ∧ RefM w' w.heap.size w'.heap.size v bs ∧ Below w.heap.size w w'
/-- one block more, behind what the call has built since w0 -/
theorem RefM.more {w0 w : World} {B : Nat} {v x : Value} {bs : MemS} {b : Option (List Byt)} (h : RefM w0 B w0.heap.size v bs) (hb : Below w0.heap.size w0 w) (hB : B ≤ w0.heap.size) (hx : BlkR w w0.heap.size w.heap.size x (b.getD [])) :
    ∃ xs, w.ownsRow B 137 2 v bs.length xs ∧ ∀ w' v', w'.ownsRow B 137 2 v' (bs.length + 1) (xs ++ [.bool b.isSome, x]) → (w.alloc (.cells #[.bool b.isSome, x] 137)).grownBy w' v.ownBlock → RefM w' B w'.heap.size v' (bs ++ [b]) ∧ Below B w w' := by
  obtain ⟨-, ess, h1, h2, h3, h4, h5⟩ := h
  have h2' := ownsRow_kept h2 fun k hk => hb.block k (own_lt h2 hk).2
  refine ⟨ess.flatten, h2', fun w' v' ho hg => ⟨RefM.snoc h1 h2' (fun i es b he hb' => ?_) h5 ⟨hx.own.mono hB, hx.lt, hx.ok, hx.len⟩ (fun i a y q hi hq hy => ?_) ho hg, ?_⟩⟩
  · obtain ⟨y, e, hy⟩ := h4 i es b he hb'
    exact ⟨y, e, hy.kept (fun k _ hk => hb.block k hk) hb.size⟩
  · have hq1 := (own_lt hx.own hq).1
    have hil := (List.getElem?_eq_some_iff.1 hi).1
    obtain ⟨z, e, hz⟩ := h4 i _ _ hi (List.getElem?_eq_getElem (by omega))
    cases e
    have := hz.lt q hy
    omega
  · exact ((Below.refl B w).alloc (Nat.le_trans hB hb.size) _).grown hg (by simp; have := hb.size; omega) (fun k hk => (own_lt h2 hk).1)
/-- the source of a copy -/
theorem BlkR.src {w : World} {B E n c : Nat} {A : Option Addr} {l : List Byt} (h : BlkR w B E (.slice A n c) l) : (A = none → l.length = 0) ∧ ∀ ad, A = some ad → ∀ j u, (l.flatMap bc)[j]? = some u → w.cell? (ad.add j) = some u := by
  refine ⟨fun e => ?_, fun ad had j u hu => ?_⟩
  · subst e
    rcases h.own.2 with ⟨_, h1⟩ | ⟨g, c, cur, h1, _⟩
    · exact h1
    · cases h1
  · subst had
    rcases h.own.2 with ⟨h1, _⟩ | ⟨g, c', cur, h1, _⟩
    · cases h1
    · cases h1
      rw [show (⟨g, 0, none⟩ : Addr).add j = ⟨g, j, none⟩ by rw [Addr.add_mid, Nat.zero_add]]
      rw [World.ownsRow.cellAt h.own j (by have := (List.getElem?_eq_some_iff.1 hu).1; rw [flat_len] at this; exact this)]
      exact hu
set_option maxRecDepth 100000 in
set_option maxHeartbeats 6400000 in
theorem rcopy_any (B E : Nat) (v : Value) (bs : MemS) (w : World) (h : RefM w B E v bs) (hs : bs.length ≤ 100000) :
    Calls Try.prog 110 #[v] w (RNewPost bs w) := by
  obtain ⟨A, C, hv⟩ := h.form
  obtain ⟨n, hn⟩ : ∃ n, Hid (n = bs.length) := ⟨_, hide rfl⟩
  rw [← hn.out] at hs hv
  obtain ⟨i0, hi0, hz0, hz1, hz2⟩ := info_parts info_Byte
  obtain ⟨j0, hj0, hj1, hj2, hj3⟩ := info_parts info_Blk
  replace hi0 := hide hi0
  replace hz0 := hide hz0
  replace hz1 := hide hz1
  replace hz2 := hide hz2
  replace hj0 := hide hj0
  replace hj1 := hide hj1
  replace hj2 := hide hj2
  replace hj3 := hide hj3
  replace h := hide h
  subst hv
  have hself := Below.refl w.heap.size w
  go_enter Try.func110, Try.ntmps110
  go_wp2_with fail
  go_loopw [3, 4] (fun u3 u4 wr => ∃ k : Nat, k ≤ n ∧ u4 = .int .i64 k ∧ Hid (RefM wr w.heap.size wr.heap.size u3 (bs.take k)) ∧ Below w.heap.size w wr) (fun _ u4 _ => n - (intOf u4).toNat)
  case atStart => exact ⟨0, Nat.zero_le _, rfl, hide (RefM.nil_ _ _), hself⟩
  case round =>
    clear hself
    obtain ⟨k, hk, rfl, hR, hbel⟩ := hrel
    by_cases hlt : k < n
    · obtain ⟨b, hb⟩ := get_ex (l := bs) (k := k) (by rw [← hn.out]; exact hlt)
      have hM := h.out.later hbel
      obtain ⟨g, C', A', c', hv, -, hgE, e1, e2, hx⟩ := hM.at_ hb.out
      have hgl : g < wr.heap.size := Nat.lt_of_lt_of_le hgE hM.size
      cases hv
      obtain ⟨hnone, hnews⟩ := hx.src
      obtain ⟨l, hl⟩ : ∃ l, Hid (l = b.getD []) := ⟨_, hide rfl⟩
      rw [← hl.out] at e2 hx hnone hnews
      obtain ⟨m, hm⟩ : ∃ m, Hid (m = l.length) := ⟨_, hide rfl⟩
      have hm8 := hx.len
      rw [← hm.out] at e2 hnone hm8
      have d1 : ∀ w', Below wr.heap.size wr w' → w'.cell? ⟨g, k * 2, none⟩ = some (.bool b.isSome) := fun w' hw => (hw.cell (p := ⟨g, k * 2, none⟩) hgl).trans e1
      have hselfr := Below.refl wr.heap.size wr
      replace hnone := hide hnone
      replace hnews := hide hnews
      have hok := hide hx.ok
      have hown0 : Hid (wr.ownsRow wr.heap.size 54 5 (.slice none 0 0) 0 []) := hide ⟨rfl, .inl ⟨rfl, rfl⟩⟩
      obtain ⟨bb, hbb⟩ : ∃ bb, Hid (bb = b.isSome) := ⟨_, hide rfl⟩
      rw [← hbb.out] at d1
      have hbs := hbel.size
      replace hbel := hide hbel
      clear hM hx e1
      go_upto_region 7 with (at_builtin; refine wpList_append_any _ rfl (.tmp 12) (.tmp 17) _ rfl wr.heap.size 54 i0 _ 5 40 Try.underlying48 hi0.out hz0.out hz1.out hz2.out rfl (by omega) (.slice none 0 0) 0 [] rfl hown0.out A' m c' (l.flatMap bc) rfl (by first | (rw [flat_len, ← hm.out]) | (have h := flat_len l; rw [List.length_flatMap] at h; rw [h, ← hm.out])) hnone.out hnews.out (bc_one _) (by unfold maxLen; omega) (by omega) (Nat.le_refl _) ?_; intro v1 Y hownY hgY; replace hownY := hide hownY; replace hgY := hide hgY)
      have hbY : Below wr.heap.size wr Y := (Below.refl _ _).grown hgY.out (Nat.le_refl _) (fun k hk => by cases hk)
      have hOY : OwnB Y wr.heap.size v1 l := by
        have := hownY.out
        unfold OwnB
        rw [← hm.out]
        simpa using this
      obtain ⟨A1, c1, rfl⟩ : ∃ A1 c1, v1 = .slice A1 m c1 := by
        rcases hownY.out.2 with ⟨h1, h2⟩ | ⟨g, cp, cur, h1, h2, _⟩
        · exact ⟨none, 0, by rw [h1]; congr 1; omega⟩
        · exact ⟨_, cp, by first | (rw [h1]; done) | (rw [h1]; congr 1; omega)⟩
      clear hownY hgY hown0
      have hbx : BlkR Y wr.heap.size Y.heap.size (.slice A1 m c1) (b.getD []) := by rw [← hl.out]; exact ⟨hOY, fun k hk => (own_lt hOY hk).2, hok.out, by rw [← hm.out]; exact hm8⟩
      obtain ⟨xs, hown, hmore⟩ := hR.out.more hbY hbs hbx
      have htl : (bs.take k).length = k := by rw [List.length_take]; have := hn.out; omega
      rw [htl] at hown hmore
      rw [← hbb.out] at hmore
      have hYs := Nat.le_trans hbs hbY.size
      have hwY := hide (hbel.out.trans (hbY.mono hbs))
      replace hown := hide hown
      replace hmore := hide hmore
      clear hbx hOY htl
      go_wp2_with (first
        | (at_builtin
           refine wpList_append_own _ rfl (.tmp 19) (.tmp 27) _ rfl w.heap.size 137 j0 _ 2 32 Try.underlying91 hj0.out hj1.out hj2.out hj3.out rfl (by omega) u3 _ _ rfl (hown.out.alloc _) ⟨Y.heap.size, 0, none⟩ 1 1 [.bool bb, .slice A1 m c1] rfl rfl ?c1 ?c2 ?c3 ?c4 ?c5 ?_
           case c1 => exact World.news_of_block (cs := #[.bool bb, .slice A1 m c1]) (t := 137) (fr := (0, 0)) (heap_alloc_new Y _)
           case c2 => simp [Value.oneCell']
           case c3 => unfold maxLen; omega
           case c4 => omega
           case c5 => simp; omega
           intro v6 w6 hown6 hg6 _
           have hR6 := hmore.out w6 v6 hown6 hg6
           have hb6 := hwY.out.trans hR6.2
           replace hR6 := hide hR6.1
           clear hown6 hg6))
      go_roundw
      case rel => exact ⟨k + 1, by omega, by go_num, by rw [List.take_add_one, hb.out]; exact hR6, hb6⟩
      case measure => simp [intOf]; omega
    · obtain rfl : k = n := by omega
      rw [List.take_of_length_le (by have := hn.out; omega)] at hR
      replace hbel := hide hbel
      go_wp2
      go_ret
      exact ⟨_, rfl, hR.out, hbel.out⟩
end Go.Proofs.Ytgkgmeofilkopaa
