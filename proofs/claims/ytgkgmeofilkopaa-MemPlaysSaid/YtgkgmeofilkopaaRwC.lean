/- Layer 9's reference: Alloc, New, walked. No condition but less than a million blocks. -/
import Derived.Test.YtgkgmeofilkopaaRwB
namespace Go.Proofs.Ytgkgmeofilkopaa
open Go.RowKit
set_option linter.unusedSimpArgs false
set_option linter.unusedVariables false

theorem fill_blk {w w' : World} {m : Nat} {b : Byt} {A : Option Addr} {c : Nat} (h : OwnB w' w.heap.size (.slice A m c) (List.replicate m b)) (hb : 0 ≤ b.bits ∧ b.bits ≤ 255) (hm : m ≤ 4096) : BlkR w' w.heap.size w'.heap.size (.slice A m c) ((some (List.replicate m b) : Option (List Byt)).getD []) :=
  ⟨h, fun k hk => (own_lt h hk).2, fun x hx => by rw [List.eq_of_mem_replicate hx]; exact hb, by simpa using hm⟩
theorem sized_le (n : Int) : (sizedS n).toNat ≤ 4096 := by unfold sizedS; omega
set_option maxRecDepth 100000 in
set_option maxHeartbeats 3200000 in
theorem ralloc_any (B E : Nat) (v : Value) (bs : MemS) (n : Int) (w : World) (h : RefM w B E v bs) (hs : bs.length ≤ 100000) :
    Calls Try.prog 92 #[v, .int .i64 n] w (RNewPost (allocS bs n) w) := by
  have hC := hide (rcopy_any B E v bs w h hs)
  obtain ⟨j0, hj0, hj1, hj2, hj3⟩ := info_parts info_Blk
  replace hj0 := hide hj0
  replace hj1 := hide hj1
  replace hj2 := hide hj2
  replace hj3 := hide hj3
  obtain ⟨m, hm⟩ : ∃ m : Nat, Hid ((sizedS n).toNat = m) := ⟨_, hide rfl⟩
  have hm8 := sized_le n
  have hal : Hid (allocS bs n = bs ++ [some (List.replicate m zb)]) := hide (by unfold allocS; rw [hm.out])
  rw [hm.out] at hm8
  obtain ⟨L, hL⟩ : ∃ L, Hid (L = bs.length) := ⟨_, hide rfl⟩
  rw [← hL.out] at hs
  clear h
  go_enter Try.func92, Try.ntmps92
  go_wp2_with fail
  refine hC.out.mono ?_
  rintro e w1 ⟨v5, rfl, hR, hb1⟩
  replace hR := hide hR
  have hbs := hb1.size
  replace hb1 := hide hb1
  have hF := hide (filled_any n zb w1)
  rw [hm.out] at hF
  go_wp2_with fail
  refine hF.out.mono ?_
  rintro e w2 ⟨A, c, rfl, hO, hb2⟩
  obtain ⟨xs, hown, hmore⟩ := hR.out.more hb2 hbs (fill_blk hO (okB_zb _ rfl) hm8)
  rw [← hL.out] at hown hmore
  replace hown := hide hown
  replace hmore := hide hmore
  have hbs2 := Nat.le_trans hbs hb2.size
  have hb3 := hide (hb1.out.trans (hb2.mono hbs))
  clear hO hb2
  go_wp2_with (first
    | (at_builtin
       refine wpList_append_own _ rfl (.tmp 8) (.tmp 12) _ rfl w.heap.size 137 j0 _ 2 32 Try.underlying91 hj0.out hj1.out hj2.out hj3.out rfl (by omega) v5 _ _ rfl (hown.out.alloc _) ⟨w2.heap.size, 0, none⟩ 1 1 [.bool true, .slice A m c] rfl rfl ?c1 ?c2 ?c3 ?c4 ?c5 ?_
       case c1 => exact World.news_of_block (cs := #[.bool true, .slice A m c]) (t := 137) (fr := (0, 0)) (heap_alloc_new w2 _)
       case c2 => simp [Value.oneCell']
       case c3 => unfold maxLen; omega
       case c4 => omega
       case c5 => simp; omega
       intro v6 w6 hown6 hg6 _
       have hR6 := hmore.out w6 v6 hown6 hg6
       have hb6 := hb3.out.trans hR6.2
       replace hR6 := hide hR6.1
       clear hown6 hg6))
  go_wp2
  go_ret
  exact ⟨_, rfl, by rw [hal.out]; exact hR6.out, hb6⟩
set_option maxRecDepth 100000 in
set_option maxHeartbeats 3200000 in
theorem rnew_any (sizes : List Int) (c : Value) (w : World) (hr : (Rp.slice 1 RNum).rep w w.heap.size [c] sizes) (hs : sizes.length ≤ 100000) :
    Calls Try.prog 58 #[c] w (RNewPost (newS sizes) w) := by
  obtain ⟨A, cap, hc, hl9, hcells⟩ := Rp.slice1_open hr
  cases hc
  replace hcells := hide hcells
  clear hr
  obtain ⟨j0, hj0, hj1, hj2, hj3⟩ := info_parts info_Blk
  replace hj0 := hide hj0
  replace hj1 := hide hj1
  replace hj2 := hide hj2
  replace hj3 := hide hj3
  obtain ⟨n, hn⟩ : ∃ n, Hid (n = sizes.length) := ⟨_, hide rfl⟩
  rw [← hn.out] at hl9 hs ⊢
  have hself := Below.refl w.heap.size w
  go_enter Try.func58, Try.ntmps58
  go_wp2_with fail
  go_loopw [3, 4] (fun u3 u4 wr => ∃ k : Nat, k ≤ n ∧ u4 = .int .i64 k ∧ Hid (RefM wr w.heap.size wr.heap.size u3 (newS (sizes.take k))) ∧ Below w.heap.size w wr) (fun _ u4 _ => n - (intOf u4).toNat)
  case atStart => exact ⟨0, Nat.zero_le _, rfl, hide (RefM.nil_ _ _), hself⟩
  case round =>
    clear hself
    obtain ⟨k, hk, rfl, hR, hbel⟩ := hrel
    by_cases hlt : k < n
    · obtain ⟨z, hz⟩ := get_ex (l := sizes) (k := k) (by rw [← hn.out]; exact hlt)
      obtain ⟨b1, o1, rfl, he1⟩ := hcells.out (by rw [← hn.out]; omega)
      obtain ⟨d1, ⟨hd0, -⟩, hd1⟩ := he1 k z hz.out
      cases hd0
      obtain ⟨m, hm⟩ : ∃ m : Nat, Hid ((sizedS z).toNat = m) := ⟨_, hide rfl⟩
      have hm8 := sized_le z
      have hsn := hide (newS_snoc hz.out)
      rw [hm.out] at hm8 hsn
      have hF := hide (filled_any z oneB wr)
      rw [hm.out] at hF
      have hbs := hbel.size
      have hL : Hid ((newS (sizes.take k)).length = k) := hide (by rw [newS_len, List.length_take]; have := hn.out; omega)
      clear he1
      go_wp2_with (first
        | (go_at_call 91
           refine hF.out.mono ?_
           rintro e w2 ⟨A2, c2, rfl, hO, hb2⟩
           obtain ⟨xs, hown, hmore⟩ := hR.out.more hb2 hbs (fill_blk hO ⟨Int.le_refl _, by show (0 : Int) ≤ 255; decide⟩ hm8)
           rw [hL.out] at hown hmore
           replace hown := hide hown
           replace hmore := hide hmore
           have hbs2 := Nat.le_trans hbs hb2.size
           have hb3 := hide (hbel.trans (hb2.mono hbs))
           clear hO hb2)
        | (at_builtin
           refine wpList_append_own _ rfl (.tmp 11) (.tmp 18) _ rfl w.heap.size 137 j0 _ 2 32 Try.underlying91 hj0.out hj1.out hj2.out hj3.out rfl (by omega) u3 _ _ rfl (hown.out.alloc _) ⟨w2.heap.size, 0, none⟩ 1 1 [.bool true, .slice A2 m c2] rfl rfl ?c1 ?c2 ?c3 ?c4 ?c5 ?_
           case c1 => exact World.news_of_block (cs := #[.bool true, .slice A2 m c2]) (t := 137) (fr := (0, 0)) (heap_alloc_new w2 _)
           case c2 => simp [Value.oneCell']
           case c3 => unfold maxLen; omega
           case c4 => omega
           case c5 => simp; omega
           intro v6 w6 hown6 hg6 _
           have hR6 := hmore.out w6 v6 hown6 hg6
           have hb6 := hb3.out.trans hR6.2
           replace hR6 := hide hR6.1
           clear hown6 hg6))
      go_roundw
      case rel => exact ⟨k + 1, by omega, by go_num, by rw [hsn.out]; exact hR6, hb6⟩
      case measure => simp [intOf]; omega
    · obtain rfl : k = n := by omega
      rw [List.take_of_length_le (by have := hn.out; omega)] at hR
      replace hbel := hide hbel
      go_wp2
      go_ret
      exact ⟨_, rfl, hR.out, hbel.out⟩
end Go.Proofs.Ytgkgmeofilkopaa
