/- lathelaw09.MemKeeps, walked. No condition but numbers within their kinds. -/
import Derived.Test.YtgkgmeofilkopaaMmU
import Derived.Test.YtgkgmeofilkopaaMmV
import Derived.Test.YtgkgmeofilkopaaMwR
import Derived.Test.YtgkgmeofilkopaaMwQ
import Derived.Test.YtgkgmeofilkopaaMwI
import Derived.Test.YtgkgmeofilkopaaMwL
import Derived.Deep.DeepCutAuto
import Derived.Deep.CutBlock
namespace Go.Proofs.Ytgkgmeofilkopaa
open Go.RowKit
set_option linter.unusedSimpArgs false
set_option linter.unusedVariables false

set_option maxRecDepth 100000 in
set_option maxHeartbeats 12000000 in
theorem law_keeps (sizes : List Int) (steps : List Stp) (t : Int) (v a : Val) (c0 c1 : Value) (w : World) (hr0 : (Rp.slice 1 RNum).rep w w.heap.size [c0] sizes) (hr1 : (Rp.slice 13 RStp).rep w w.heap.size [c1] steps) (hv : 0 ≤ v.bits ∧ v.bits ≤ 18446744073709551615) :
    Calls Try.prog 11 #[c0, c1, .int .i64 t, vv v, vv a] w fun e w' => e = .returned (.bool true) ∧ Below w.heap.size w w' := by
  have cNew : Hid (∀ W, Below w.heap.size w W → sizes.length ≤ 20 → Calls Try.prog 47 #[c0] W (NewPost sizes W)) := hide (fun W h hl => new_any sizes c0 W (Rp.later (R := Rp.slice 1 RNum) hr0 h h.size) (by omega))
  obtain ⟨A0, cap0, hc0, hl0, -⟩ := Rp.slice_open hr0
  obtain ⟨A1, cap1, hc1, hl1, hs1⟩ := Rp.slice_open hr1
  cases hc0
  cases hc1
  clear hr0 hr1
  replace hs1 := hide hs1
  obtain ⟨n, hn⟩ : ∃ n, Hid (n = sizes.length) := ⟨_, hide rfl⟩
  obtain ⟨nb, hnb⟩ : ∃ nb, Hid (nb = steps.length) := ⟨_, hide rfl⟩
  rw [← hn.out] at hl0 cNew ⊢
  rw [← hnb.out] at hl1 ⊢
  obtain ⟨W, hW, hwW, hWs, q1, q2⟩ := boxes2 w #[.int .i64 v.kind, .int .u64 v.bits, .int .i64 v.block, .int .i64 v.off] #[.int .i64 a.kind, .int .u64 a.bits, .int .i64 a.block, .int .i64 a.off] 47 47
  have v0 := q1 0 _ rfl
  have v1 := q1 1 _ rfl
  have v2 := q1 2 _ rfl
  have v3 := q1 3 _ rfl
  have a0 := q2 0 _ rfl
  have a1 := q2 1 _ rfl
  have a2 := q2 2 _ rfl
  have a3 := q2 3 _ rfl
  clear q1 q2
  have hws : w.heap.size ≤ W.heap.size := by omega
  replace hWs := hide hWs
  replace hwW := hide hwW
  replace hW := hide hW
  by_cases hbig : 20 < (n : Int) ∨ 40 < (nb : Int)
  · by_cases hb1 : 20 < (n : Int)
    · go_enter Try.func11, Try.ntmps11
      go_wp2_with fail
      rw [hW.out]
      refine (lives_mem W).mono ?_
      rintro e w1 ⟨rfl, hb2⟩
      replace hb2 := hide hb2
      go_wp2
      go_ret
      exact ⟨rfl, hwW.out.trans (hb2.out.mono hws)⟩
    · have hb3 : 40 < (nb : Int) := by omega
      replace hbig := hide hbig
      go_enter Try.func11, Try.ntmps11
      go_wp2_with fail
      rw [hW.out]
      refine (lives_mem W).mono ?_
      rintro e w1 ⟨rfl, hb2⟩
      replace hb2 := hide hb2
      go_wp2
      go_ret
      exact ⟨rfl, hwW.out.trans (hb2.out.mono hws)⟩
  have hn20 : ¬ 20 < (n : Int) := by omega
  have hn40 : ¬ 40 < (nb : Int) := by omega
  clear hbig
  obtain ⟨i0, hi0, hz0, hz1, hz2⟩ := info_parts info_Rows
  replace hi0 := hide hi0
  replace hz0 := hide hz0
  replace hz1 := hide hz1
  replace hz2 := hide hz2
  go_enter Try.func11, Try.ntmps11
  go_wp2_with fail
  rw [hW.out]
  clear hW
  refine (lives_mem W).mono ?_
  rintro e w1 ⟨rfl, hb1⟩
  replace hb1 := hide hb1
  go_wp2_with fail
  refine (cNew.out w1 (hwW.out.trans (hb1.out.mono hws)) (by omega)).mono ?_
  rintro e w2 ⟨g, rfl, hN, hb2⟩
  have hN2 : NewIs W.heap.size w2 g (newS sizes) := by
    obtain ⟨F, h1, h2⟩ := hN
    exact ⟨F, h1, fun k hk => by have := h2 k hk; have := hb1.out.size; omega⟩
  have hb3 : Below W.heap.size W w2 := hb1.out.trans (hb2.mono hb1.out.size)
  replace hN2 := hide hN2
  clear hN hb2
  go_wp2_with fail
  go_loopw [12, 44] (fun u12 u44 wr => ∃ k : Nat, k ≤ nb ∧ u44 = .int .i64 k ∧ u12 = .int .i64 ((play stepK (newS sizes) (steps.take k)).length : Nat) ∧ Hid (NewIs W.heap.size wr g (play stepK (newS sizes) (steps.take k))) ∧ Below W.heap.size W wr) (fun _ u44 _ => nb - (intOf u44).toNat)
  case atStart => exact ⟨0, Nat.zero_le _, rfl, by simp [play, newS_len, hn.out], by simpa [play] using hN2, hb3⟩
  case round =>
    clear hb3 hN2
    obtain ⟨k, hk, rfl, rfl, hm, hbel⟩ := hrel
    by_cases hlt : k < nb
    · clear v0 v1 v2 v3 a0 a1 a2 a3
      obtain ⟨s, hs⟩ := get_ex (l := steps) (k := k) (by rw [← hnb.out]; exact hlt)
      obtain ⟨q, o, rfl, hce⟩ := hs1.out (by rw [← hnb.out]; omega)
      obtain ⟨es, -, ⟨rfl, hok⟩, hcs⟩ := hce k s hs.out
      have hbw := hwW.out.trans (hbel.mono hws)
      have d0 : ∀ w', Below w.heap.size w w' → w'.cell? ⟨q, o + k * 13, none⟩ = some (.int .i64 s.kind) := hcs.at_ 0 rfl
      have d1 : ∀ w', Below w.heap.size w w' → w'.cell? ⟨q, o + k * 13 + 1, none⟩ = some (.int .i64 s.a) := hcs.at_ 1 rfl
      have d2 : ∀ w', Below w.heap.size w w' → w'.cell? ⟨q, o + k * 13 + 2, none⟩ = some (.int .i64 s.b) := hcs.at_ 2 rfl
      have d3 : ∀ w', Below w.heap.size w w' → w'.cell? ⟨q, o + k * 13 + 3, none⟩ = some (.int .i64 s.t) := hcs.at_ 3 rfl
      have d4 : ∀ w', Below w.heap.size w w' → w'.cell? ⟨q, o + k * 13 + 4, none⟩ = some (.int .i64 s.v.kind) := hcs.at_ 4 rfl
      have d5 : ∀ w', Below w.heap.size w w' → w'.cell? ⟨q, o + k * 13 + 5, none⟩ = some (.int .u64 s.v.bits) := hcs.at_ 5 rfl
      have d6 : ∀ w', Below w.heap.size w w' → w'.cell? ⟨q, o + k * 13 + 6, none⟩ = some (.int .i64 s.v.block) := hcs.at_ 6 rfl
      have d7 : ∀ w', Below w.heap.size w w' → w'.cell? ⟨q, o + k * 13 + 7, none⟩ = some (.int .i64 s.v.off) := hcs.at_ 7 rfl
      have d8 : ∀ w', Below w.heap.size w w' → w'.cell? ⟨q, o + k * 13 + 8, none⟩ = some (.int .i64 s.at_.kind) := hcs.at_ 8 rfl
      have d9 : ∀ w', Below w.heap.size w w' → w'.cell? ⟨q, o + k * 13 + 9, none⟩ = some (.int .u64 s.at_.bits) := hcs.at_ 9 rfl
      have d10 : ∀ w', Below w.heap.size w w' → w'.cell? ⟨q, o + k * 13 + 10, none⟩ = some (.int .i64 s.at_.block) := hcs.at_ 10 rfl
      have d11 : ∀ w', Below w.heap.size w w' → w'.cell? ⟨q, o + k * 13 + 11, none⟩ = some (.int .i64 s.at_.off) := hcs.at_ 11 rfl
      have d12 : ∀ w', Below w.heap.size w w' → w'.cell? ⟨q, o + k * 13 + 12, none⟩ = some (.int .u8 s.byte) := hcs.at_ 12 rfl
      clear hce hcs
      go_upto_region 12 with (fail)
      obtain ⟨X, hX, hwX, hXs, qq⟩ := boxes1 wr #[.int .i64 s.kind, .int .i64 s.a, .int .i64 s.b, .int .i64 s.t, .int .i64 s.v.kind, .int .u64 s.v.bits, .int .i64 s.v.block, .int .i64 s.v.off, .int .i64 s.at_.kind, .int .u64 s.at_.bits, .int .i64 s.at_.block, .int .i64 s.at_.off, .int .u8 s.byte] 78
      rw [hX]
      clear hX hbw d0 d1 d2 d3 d4 d5 d6 d7 d8 d9 d10 d11 d12
      have hself := Below.refl X.heap.size X
      have x0 := qq 0 _ rfl
      have x1 := qq 1 _ rfl
      have x2 := qq 2 _ rfl
      have x3 := qq 3 _ rfl
      have x4 := qq 4 _ rfl
      have x5 := qq 5 _ rfl
      have x6 := qq 6 _ rfl
      have x7 := qq 7 _ rfl
      have x8 := qq 8 _ rfl
      have x9 := qq 9 _ rfl
      have x10 := qq 10 _ rfl
      have x11 := qq 11 _ rfl
      have x12 := qq 12 _ rfl
      clear qq
      have hxs : wr.heap.size ≤ X.heap.size := by omega
      replace hXs := hide hXs
      obtain ⟨bs, hbs⟩ : ∃ bs, Hid (bs = play stepK (newS sizes) (steps.take k)) := ⟨_, hide rfl⟩
      obtain ⟨L, hL⟩ : ∃ L, Hid (L = bs.length) := ⟨_, hide rfl⟩
      have hL60 : L ≤ 60 := by
        have := play_len stepK_len (steps.take k) (newS sizes)
        rw [← hbs.out, ← hL.out, newS_len, ← hn.out, List.length_take] at this
        omega
      have hsn := hide (play_snoc (f := stepK) (bs := newS sizes) hs.out)
      rw [← hbs.out] at hm hsn ⊢
      rw [← hL.out]
      obtain ⟨F, hM, hF⟩ := hm.out
      have hM1 := hide (hM.later hwX)
      have hFb := hide hF
      have hb4 := hide (hbel.trans (hwX.mono hbel.size))
      clear hwX hM hF hm
      by_cases k1 : s.kind = 1
      · have g1 : (s.kind == 1) = true := beq_iff_eq.2 k1
        have hst : Hid (stepK bs s = allocS bs s.a) := hide (by unfold stepK; rw [if_pos k1])
        rw [hst.out] at hsn
        replace k1 := hide k1
        go_wp2_with (go_at_call 48; refine (alloc_any g F bs s.a X hM1.out (by rw [← hL.out]; omega)).mono ?_; rintro e w5 ⟨rfl, hM5, hU5⟩; replace hM5 := hide hM5; replace hU5 := hide hU5)
        go_roundw
        case rel =>
          refine ⟨k + 1, by omega, by go_num, ?_, hide ⟨_, by rw [hsn.out]; exact hM5.out, ?_⟩, hb4.out.trans (hU5.out.below hb4.out.size hFb.out)⟩
          · rw [hsn.out, alloc_len, ← hL.out]; go_num
          · intro i hi
            rcases hi with hi | hi
            · exact hFb.out i hi
            · have := hb4.out.size; omega
        case measure => simp [intOf]; omega
      · by_cases k2 : s.kind = 2
        · have g1 : (s.kind == 1) = false := beq_eq_false_iff_ne.2 k1
          have g2 : (s.kind == 2) = true := beq_iff_eq.2 k2
          have hst : Hid (stepK bs s = freeS bs s.a) := hide (by unfold stepK; rw [if_neg k1, if_pos k2])
          rw [hst.out] at hsn
          replace k1 := hide k1
          replace k2 := hide k2
          go_wp2_with (go_at_call 52; refine (free_any g F bs s.a X hM1.out).mono ?_; rintro e w5 ⟨rfl, hM5, hU5⟩; replace hM5 := hide hM5; replace hU5 := hide hU5)
          go_roundw
          case rel => exact ⟨k + 1, by omega, by go_num, by rw [hsn.out, free_len, ← hL.out], hide ⟨F, by rw [hsn.out]; exact hM5.out, hFb.out⟩, hb4.out.trans (hU5.out.below hb4.out.size hFb.out)⟩
          case measure => simp [intOf]; omega
        · by_cases k4 : s.kind = 4
          · have g1 : (s.kind == 1) = false := beq_eq_false_iff_ne.2 k1
            have g2 : (s.kind == 2) = false := beq_eq_false_iff_ne.2 k2
            have g4 : (s.kind == 4) = true := beq_iff_eq.2 k4
            have hst : Hid (stepK bs s = (storeS bs s.t s.v s.at_).1) := hide (by unfold stepK; rw [if_neg k1, if_neg k2, if_pos k4])
            rw [hst.out] at hsn
            replace k1 := hide k1
            replace k2 := hide k2
            replace k4 := hide k4
            go_wp2_with (go_at_call 49; refine (store_any g F bs s.t s.v s.at_ X hM1.out hok.v).mono ?_; rintro e w5 ⟨rfl, hM5, hU5⟩; replace hM5 := hide hM5; replace hU5 := hide hU5)
            go_roundw
            case rel => exact ⟨k + 1, by omega, by go_num, by rw [hsn.out, store_len, ← hL.out], hide ⟨F, by rw [hsn.out]; exact hM5.out, hFb.out⟩, hb4.out.trans (hU5.out.below hb4.out.size hFb.out)⟩
            case measure => simp [intOf]; omega
          · by_cases k5 : s.kind = 5
            · have g1 : (s.kind == 1) = false := beq_eq_false_iff_ne.2 k1
              have g2 : (s.kind == 2) = false := beq_eq_false_iff_ne.2 k2
              have g4 : (s.kind == 4) = false := beq_eq_false_iff_ne.2 k4
              have g5 : (s.kind == 5) = true := beq_iff_eq.2 k5
              have hst : Hid (stepK bs s = (setS bs s.a s.b s.byte).1) := hide (by unfold stepK; rw [if_neg k1, if_neg k2, if_neg k4, if_pos k5])
              rw [hst.out] at hsn
              replace k1 := hide k1
              replace k2 := hide k2
              replace k4 := hide k4
              replace k5 := hide k5
              go_wp2_with (go_at_call 54; refine (set_any g F bs s.a s.b s.byte X hM1.out hok.byte).mono ?_; rintro e w5 ⟨rfl, hM5, hU5⟩; replace hM5 := hide hM5; replace hU5 := hide hU5)
              go_roundw
              case rel => exact ⟨k + 1, by omega, by go_num, by rw [hsn.out, setS_len, ← hL.out], hide ⟨F, by rw [hsn.out]; exact hM5.out, hFb.out⟩, hb4.out.trans (hU5.out.below hb4.out.size hFb.out)⟩
              case measure => simp [intOf]; omega
            · have g1 : (s.kind == 1) = false := beq_eq_false_iff_ne.2 k1
              have g2 : (s.kind == 2) = false := beq_eq_false_iff_ne.2 k2
              have g4 : (s.kind == 4) = false := beq_eq_false_iff_ne.2 k4
              have g5 : (s.kind == 5) = false := beq_eq_false_iff_ne.2 k5
              have hst : Hid (stepK bs s = bs) := hide (by unfold stepK; rw [if_neg k1, if_neg k2, if_neg k4, if_neg k5])
              rw [hst.out] at hsn
              replace k1 := hide k1
              replace k2 := hide k2
              replace k4 := hide k4
              replace k5 := hide k5
              go_wp2
              go_roundw
              case rel => exact ⟨k + 1, by omega, by go_num, by rw [hsn.out, ← hL.out], hide ⟨F, by rw [hsn.out]; exact hM1.out, hFb.out⟩, hb4.out⟩
              case measure => simp [intOf]; omega
    · obtain rfl : k = nb := by omega
      obtain ⟨bs, hbs⟩ : ∃ bs, Hid (bs = play stepK (newS sizes) (steps.take k)) := ⟨_, hide rfl⟩
      obtain ⟨L, hL⟩ : ∃ L, Hid (L = bs.length) := ⟨_, hide rfl⟩
      have hL60 : L ≤ 60 := by
        have := play_len stepK_len (steps.take k) (newS sizes)
        rw [← hbs.out, ← hL.out, newS_len, ← hn.out, List.length_take] at this
        omega
      rw [← hbs.out] at hm ⊢
      rw [← hL.out]
      obtain ⟨F, hM, hF⟩ := hm.out
      clear hbs hm hs1 cNew
      obtain ⟨U, hU⟩ : ∃ U, U = wr := ⟨_, rfl⟩
      rw [← hU] at hM hbel ⊢
      clear hU
      have hlt0 := hM.lt
      replace hF := hide hF
      replace hlt0 := hide hlt0
      have hselfU := Below.refl U.heap.size U
      have hbU := hide hbel
      replace hM := hide hM
      clear hbel
      go_wp2_with fail
      go_loopw [15, 16] (fun u15 u16 wr => ∃ k : Nat, k ≤ L ∧ u16 = .int .i64 k ∧ Hid (Was wr U.heap.size u15 (rowsS bs k)) ∧ Below U.heap.size U wr) (fun _ u16 _ => L - (intOf u16).toNat)
      case atStart => exact ⟨0, Nat.zero_le _, rfl, hide (Was.nil_ _ _), hselfU⟩
      case round =>
        clear hselfU
        obtain ⟨k2, hk2, rfl, hwas, hbel⟩ := hrel
        by_cases hlt2 : k2 < L
        · clear v0 v1 v2 v3 a0 a1 a2 a3
          have hM2 := hide (hM.out.later hbel)
          have hBy := hide (bytes_any g F bs k2 wr hM2.out)
          obtain ⟨xs, hown, hxs⟩ := hwas.out
          rw [rowsS_len] at hown
          replace hown := hide hown
          replace hxs := hide hxs
          have hbs2 := hbel.size
          go_wp2_with (first
            | (go_at_call 50
               refine hBy.out.mono ?_
               rintro e w5 ⟨A5, c5, rfl, hO5, hb5⟩
               have hO6 := hide (hO5.mono hbs2)
               have hown5 := hide (ownsRow_kept hown.out fun j hj => hb5.block j (own_lt hown.out hj).2)
               have hxs5 : Hid (∀ (i : Nat) x y, xs[i]? = some x → (rowsS bs k2)[i]? = some y → OwnB w5 U.heap.size x y) := hide (fun i x y h1 h2 => (hxs.out i x y h1 h2).later hb5)
               have hb6 := hbel.trans (hb5.mono hbs2)
               have hbs6 := hb6.size
               obtain ⟨m5, hm5⟩ : ∃ m5, Hid (m5 = (bytesS bs k2).length) := ⟨_, hide rfl⟩
               rw [← hm5.out] at hO6 ⊢
               clear hO5 hb5)
            | (at_builtin
               refine wpList_append_own _ rfl (.tmp 90) (.tmp 94) _ rfl U.heap.size 48 i0 _ 1 24 Try.underlying81 hi0.out hz0.out hz1.out hz2.out rfl (by omega) u15 _ _ rfl (hown5.out.alloc _) ⟨w5.heap.size, 0, none⟩ 1 1 [.slice A5 m5 c5] rfl rfl ?c1 ?c2 ?c3 ?c4 ?c5 ?_
               case c1 => exact World.news_of_block (cs := #[.slice A5 m5 c5]) (t := 48) (fr := (0, 0)) (heap_alloc_new w5 _)
               case c2 => simp [Value.oneCell']
               case c3 => unfold maxLen; omega
               case c4 => omega
               case c5 => simp; omega
               intro v1 w6 hown1 hg1 _
               have hb7 : Below U.heap.size U w6 := (hb6.alloc hbs6 _).grown hg1 (by simp; omega) (fun j hj => (own_lt hown5.out hj).1)
               have hW7 := hide (Was.snoc (by rw [rowsS_len]; exact hown5.out) hxs5.out hO6.out (by rw [rowsS_len]; exact hown1) hg1)
               clear hown1 hg1))
          go_roundw
          case rel => exact ⟨k2 + 1, by omega, by go_num, by rw [rowsS_snoc]; exact hW7, hb7⟩
          case measure => simp [intOf]; omega
        · obtain rfl : k2 = L := by omega
          obtain ⟨V, hV⟩ : ∃ V, V = wr := ⟨_, rfl⟩
          rw [← hV] at hwas hbel ⊢
          clear hV
          have hMV := hide (hM.out.later hbel)
          have hbV := hbU.out.trans (hbel.mono hbU.out.size)
          obtain ⟨af, haf⟩ : ∃ af, Hid ((storeS bs t v a).1 = af) := ⟨_, hide rfl⟩
          obtain ⟨ok, hok⟩ : ∃ ok, Hid ((storeS bs t v a).2 = ok) := ⟨_, hide rfl⟩
          obtain ⟨x, hx, hxy⟩ := store_load bs t v a hv.1
          rw [haf.out, hok.out] at hx
          rw [hok.out] at hxy
          obtain ⟨y, hy⟩ : ∃ y, Hid ((if t = 65 ∧ v.kind = 3 then noV else normS t v) = y) := ⟨_, hide rfl⟩
          rw [hy.out] at hxy
          replace hx := hide hx
          replace hxy := hide hxy
          have hoff : Hid (ok = true → 0 ≤ a.off ∧ a.off ≤ 4096) := hide (fun h => by
            have h1 := store_off (hok.out.trans h)
            have h2 := (hMV.out.okb a.block).2
            omega)
          have hSt := hide (store_any g F bs t v a V hMV.out hv)
          unfold StorePost at hSt
          rw [haf.out, hok.out] at hSt
          clear hbel
          obtain ⟨A15, C15, hu15, -⟩ := hwas.out.form
          rw [rowsS_len] at hu15
          subst hu15
          go_upto_region 29 with (go_at_call 49; refine hSt.out.mono ?_; rintro e V2 ⟨rfl, hM2, hU2⟩; replace hM2 := hide hM2; replace hU2 := hide hU2)
          have hW2 := hide (hwas.out.upd hU2.out hlt0.out)
          have hbV2 := hbV.trans (hU2.out.below hbV.size hF.out)
          have hV2s := hbV2.size
          have y0 : ∀ w', Below V2.heap.size V2 w' → w'.cell? ⟨w.heap.size, 0, none⟩ = some (.int .i64 v.kind) := fun w' h => v0 w' (hbV2.trans (h.mono hV2s))
          have y1 : ∀ w', Below V2.heap.size V2 w' → w'.cell? ⟨w.heap.size, 1, none⟩ = some (.int .u64 v.bits) := fun w' h => v1 w' (hbV2.trans (h.mono hV2s))
          have y2 : ∀ w', Below V2.heap.size V2 w' → w'.cell? ⟨w.heap.size, 2, none⟩ = some (.int .i64 v.block) := fun w' h => v2 w' (hbV2.trans (h.mono hV2s))
          have y3 : ∀ w', Below V2.heap.size V2 w' → w'.cell? ⟨w.heap.size, 3, none⟩ = some (.int .i64 v.off) := fun w' h => v3 w' (hbV2.trans (h.mono hV2s))
          have z0 : ∀ w', Below V2.heap.size V2 w' → w'.cell? ⟨w.heap.size + 1, 0, none⟩ = some (.int .i64 a.kind) := fun w' h => a0 w' (hbV2.trans (h.mono hV2s))
          have z1 : ∀ w', Below V2.heap.size V2 w' → w'.cell? ⟨w.heap.size + 1, 1, none⟩ = some (.int .u64 a.bits) := fun w' h => a1 w' (hbV2.trans (h.mono hV2s))
          have z2 : ∀ w', Below V2.heap.size V2 w' → w'.cell? ⟨w.heap.size + 1, 2, none⟩ = some (.int .i64 a.block) := fun w' h => a2 w' (hbV2.trans (h.mono hV2s))
          have z3 : ∀ w', Below V2.heap.size V2 w' → w'.cell? ⟨w.heap.size + 1, 3, none⟩ = some (.int .i64 a.off) := fun w' h => a3 w' (hbV2.trans (h.mono hV2s))
          clear v0 v1 v2 v3 a0 a1 a2 a3
          have cBy : Hid (∀ W, Below V2.heap.size V2 W → ∀ b, Calls Try.prog 50 #[.pointer (some ⟨g, 0, none⟩), .int .i64 b] W (BytesPost (bytesS af b) W)) := hide (fun W hW b => bytes_any g F _ b W (hM2.out.later hW))
          have cLd := hide (load_any g F af t a V2 hM2.out)
          rw [hx.out] at cLd
          have hself2 := Below.refl V2.heap.size V2
          replace hbV2 := hide hbV2
          clear hSt hMV hU2 hbV hwas hM hbU
          go_upto_region 30 with (go_at_call 53; refine cLd.out.mono ?_; rintro e w7 ⟨rfl, hb7⟩)
          clear hself2
          have hX1 := hb7.alloc hb7.size (.cells #[.int .i64 x.kind, .int .u64 x.bits, .int .i64 x.block, .int .i64 x.off] 47)
          have hB1 := box_top w7 (.cells #[.int .i64 x.kind, .int .u64 x.bits, .int .i64 x.block, .int .i64 x.off] 47)
          obtain ⟨X1, hXe⟩ : ∃ X1, X1 = w7.alloc (.cells #[.int .i64 x.kind, .int .u64 x.bits, .int .i64 x.block, .int .i64 x.off] 47) := ⟨_, rfl⟩
          have hs7 : w7.heap.size < X1.heap.size := by rw [hXe]; simp
          have hV7 := hb7.size
          rw [← hXe] at hX1 hB1 ⊢
          clear hXe hb7
          obtain ⟨N1, hN1⟩ : ∃ N1, N1 = w7.heap.size := ⟨_, rfl⟩
          rw [← hN1] at hB1 hs7 hV7 ⊢
          clear hN1
          have cN := hide (norm_any t v X1 hv)
          go_upto_region 31 with (go_at_call 36; refine cN.out.mono ?_; rintro e w8 ⟨rfl, hb8⟩)
          obtain ⟨nv, hnv⟩ : ∃ nv, Hid (normS t v = nv) := ⟨_, hide rfl⟩
          rw [hnv.out]
          have hX2 := (hX1.trans (hb8.mono hX1.size)).alloc (Nat.le_trans hX1.size hb8.size) (.cells #[.int .i64 nv.kind, .int .u64 nv.bits, .int .i64 nv.block, .int .i64 nv.off] 47)
          have hB2 := box_top w8 (.cells #[.int .i64 nv.kind, .int .u64 nv.bits, .int .i64 nv.block, .int .i64 nv.off] 47)
          have hB3 := one_alloc ((hb8.block N1 hs7).trans hB1) (.cells #[.int .i64 nv.kind, .int .u64 nv.bits, .int .i64 nv.block, .int .i64 nv.off] 47)
          obtain ⟨X2, hXe⟩ : ∃ X2, X2 = w8.alloc (.cells #[.int .i64 nv.kind, .int .u64 nv.bits, .int .i64 nv.block, .int .i64 nv.off] 47) := ⟨_, rfl⟩
          have hs8 : N1 < w8.heap.size := Nat.lt_of_lt_of_le hs7 hb8.size
          rw [← hXe] at hX2 hB2 hB3 ⊢
          clear hXe hb8 hX1 hB1 cN
          obtain ⟨N2, hN2⟩ : ∃ N2, N2 = w8.heap.size := ⟨_, rfl⟩
          rw [← hN2] at hB2 hs8 ⊢
          clear hN2
          replace hB2 := hide hB2
          replace hB3 := hide hB3
          obtain ⟨hc, hhc⟩ : ∃ hc : Bool, Hid (decide (t = 65 ∧ v.kind = 3) = hc) := ⟨_, hide rfl⟩
          go_cut [117] (fun s117 wx => s117 = .bool hc ∧ wx = X2)
          case first =>
            by_cases t1 : t = 65
            · have g1 : (t == 65) = true := beq_iff_eq.2 t1
              by_cases t2 : v.kind = 3
              · have g2 : (v.kind == 3) = true := beq_iff_eq.2 t2
                have g3 : hc = true := by rw [← hhc.out]; exact decide_eq_true ⟨t1, t2⟩
                replace t1 := hide t1
                replace t2 := hide t2
                go_wp2_with fail
                go_meet
                exact ⟨by rw [g3], rfl⟩
              · have g2 : (v.kind == 3) = false := beq_eq_false_iff_ne.2 t2
                have g3 : hc = false := by rw [← hhc.out]; exact decide_eq_false (fun h => t2 h.2)
                replace t1 := hide t1
                replace t2 := hide t2
                go_wp2_with fail
                go_meet
                exact ⟨by rw [g3], rfl⟩
            · have g1 : (t == 65) = false := beq_eq_false_iff_ne.2 t1
              have g3 : hc = false := by rw [← hhc.out]; exact decide_eq_false (fun h => t1 h.1)
              replace t1 := hide t1
              go_wp2_with fail
              go_meet
              exact ⟨by rw [g3], rfl⟩
          case rest =>
            obtain ⟨rfl, hwc⟩ := hcut
            rw [hwc]
            clear hwc
            go_upto_if 117 with (fail)
            go_cut [118] (fun s118 wx => Hid (wx.heap[N2]? = some (.cells #[.int .i64 y.kind, .int .u64 y.bits, .int .i64 y.block, .int .i64 y.off] 47 (0, 0))) ∧ Hid (wx.heap[N1]? = some (.cells #[.int .i64 x.kind, .int .u64 x.bits, .int .i64 x.block, .int .i64 x.off] 47 (0, 0))) ∧ Below V2.heap.size V2 wx)
            case first =>
              cases hc with
              | true =>
                have hyv : y = noV := by rw [← hy.out, if_pos (of_decide_eq_true hhc.out)]
                obtain ⟨r0, r1, r2, r3⟩ := four_cells hB2.out
                have f0 := one_free (j := 0) hB2.out
                have f1 := one_free (j := 1) hB2.out
                have f2 := one_free (j := 2) hB2.out
                have f3 := one_free (j := 3) hB2.out
                have hs4 := hide (set_four (a' := .int .i64 0) (b' := .int .u64 0) (c' := .int .i64 0) (d' := .int .i64 0) hB2.out)
                have hN21 : N1 ≠ N2 := by omega
                have hs5 : Hid (((((X2.setCell ⟨N2, 0, none⟩ (.int .i64 0)).setCell ⟨N2, 1, none⟩ (.int .u64 0)).setCell ⟨N2, 2, none⟩ (.int .i64 0)).setCell ⟨N2, 3, none⟩ (.int .i64 0)).heap[N1]? = some (.cells #[.int .i64 x.kind, .int .u64 x.bits, .int .i64 x.block, .int .i64 x.off] 47 (0, 0))) := hide (by
                  rw [Below.heap_setCell _ _ _ _ hN21, Below.heap_setCell _ _ _ _ hN21, Below.heap_setCell _ _ _ _ hN21, Below.heap_setCell _ _ _ _ hN21]; exact hB3.out)
                have hb9 := hide (below_four (q := N2) (v0 := .int .i64 0) (v1 := .int .u64 0) (v2 := .int .i64 0) (v3 := .int .i64 0) hX2 (by omega))
                replace hhc := hide hhc
                go_wp2_with fail
                go_meet
                exact ⟨hide (by rw [hyv]; exact hs4.out), hs5, hb9.out⟩
              | false =>
                have hyv : y = nv := by rw [← hy.out, if_neg (of_decide_eq_false hhc.out), hnv.out]
                replace hhc := hide hhc
                go_wp2_with fail
                go_meet
                exact ⟨by rw [hyv]; exact hB2, hB3, hX2⟩
            case rest =>
              clear hB2 hB3 hX2
              obtain ⟨hB2, hB3, hX2⟩ := hcut
              obtain ⟨X4, hX4e⟩ : ∃ X4, X4 = wc := ⟨_, rfl⟩
              rw [← hX4e] at hB2 hB3 hX2 ⊢
              clear hX4e
              go_upto_region 33 with (fail)
              go_cut [129] (fun s129 wx => s129 = .bool false ∧ wx = X4)
              case first =>
                cases ok with
                | true =>
                  have hxy2 := hxy.out rfl
                  rw [hxy2] at hB3
                  obtain ⟨r0, r1, r2, r3⟩ := four_cells hB2.out
                  obtain ⟨p0, p1, p2, p3⟩ := four_cells hB3.out
                  replace hxy2 := hide hxy2
                  go_wp2_with fail
                  go_meet
                  exact ⟨rfl, rfl⟩
                | false =>
                  go_wp2_with fail
                  go_meet
                  exact ⟨rfl, rfl⟩
              case rest =>
                obtain ⟨rfl, hwc⟩ := hcut
                rw [hwc]
                clear hwc hB2 hB3
                have cP := hide (pack_any t v X4 hv)
                obtain ⟨p, hp⟩ : ∃ p : Nat, Hid ((countS t).toNat = p) := ⟨_, hide rfl⟩
                have hp8 : p ≤ 8 := by have := countS_le t; have := hp.out; omega
                go_upto_region 36 with (go_at_call 31; refine cP.out.mono ?_; rintro e w11 ⟨q11, rfl, -, -, hb11⟩; rw [hp.out]; have hb12 := hX2.trans (hb11.mono hX2.size); clear hb11)
                clear cP hX2
                go_wp2_with fail
                go_loopw [22] (fun u22 wr => ∃ b : Nat, b ≤ k2 ∧ u22 = .int .i64 b ∧ Below V2.heap.size V2 wr) (fun u22 _ => k2 - (intOf u22).toNat)
                case atStart => exact ⟨0, Nat.zero_le _, rfl, hb12⟩
                case round =>
                  clear hb12
                  obtain ⟨b, hb, rfl, hbel⟩ := hrel
                  by_cases hlt3 : b < k2
                  · have cB := hide (cBy.out wr hbel b)
                    have hwr := hide hbel
                    obtain ⟨r, hr⟩ : ∃ r, Hid (r = bytesS bs b) := ⟨_, hide rfl⟩
                    obtain ⟨r', hr'⟩ : ∃ r', Hid (r' = bytesS af b) := ⟨_, hide rfl⟩
                    have hyl : r'.length = r.length := by rw [hr.out, hr'.out, ← haf.out]; exact store_blen bs t v a b
                    have hy4 := (hM2.out.okb b).2
                    rw [← hr'.out] at hy4
                    obtain ⟨m, hm⟩ : ∃ m, Hid (m = r.length) := ⟨_, hide rfl⟩
                    have hm' : Hid (m = r'.length) := hide (by rw [hm.out, hyl])
                    rw [← hm'.out] at hy4
                    rw [← hr'.out] at cB
                    clear hyl hbel
                    go_upto_region 40 with (go_at_call 50; refine cB.out.mono ?_; rintro e w9 ⟨A9, c9, rfl, hO9, hb9⟩; have hb11 := hwr.out.trans (hb9.mono hwr.out.size); replace hO9 := hide hO9; clear hb9)
                    have hW9 := hide (hW2.out.later hb11)
                    obtain ⟨g9, C9, A8, c8, hu9, -, hc8, hO8⟩ := hW9.out.at_ (i := b) (y := r) (by rw [rowsS_at bs hlt3, hr.out])
                    rw [rowsS_len] at hu9
                    cases hu9
                    rw [← hm.out] at hc8 hO8
                    rw [← hm'.out] at hO9
                    rw [← hm'.out]
                    replace hO8 := hide hO8
                    have hc8' : ∀ w', Below w9.heap.size w9 w' → w'.cell? ⟨g9, b, none⟩ = some (.slice A8 m c8) := fun w' h => (h.cell (p := ⟨g9, b, none⟩) (World.block_lt_of_cell? w9 _ hc8)).trans hc8
                    have hself9 := Below.refl w9.heap.size w9
                    have hnn : ((m : Int) != (m : Int)) = false := by simp
                    go_wp2_with fail
                    go_loopw [152] (fun u152 wr => ∃ j : Nat, j ≤ m ∧ u152 = .int .i64 j ∧ Below w9.heap.size w9 wr) (fun u152 _ => m - (intOf u152).toNat)
                    case atStart => exact ⟨0, Nat.zero_le _, rfl, hself9⟩
                    case round =>
                      clear hc8 hself9
                      obtain ⟨j, hj, rfl, hbel⟩ := hrel
                      have hbv := hb11.trans (hbel.mono hb11.size)
                      by_cases hlt4 : j < m
                      · obtain ⟨d, hd⟩ := get_ex (l := r) (k := j) (by rw [← hm.out]; exact hlt4)
                        obtain ⟨d', hd'⟩ := get_ex (l := r') (k := j) (by rw [← hm'.out]; exact hlt4)
                        obtain ⟨q1, rfl, d0, d1, d2, d3, d4⟩ := hO8.out.far hd.out
                        obtain ⟨q2, rfl, e0, e1, e2, e3, e4⟩ := hO9.out.far hd'.out
                        have hdd : Hid (¬ (ok = true ∧ (b : Int) = a.block ∧ a.off ≤ j ∧ (j : Int) < a.off + p) → d' = d) := hide (fun hn => by
                          refine store_at (bs := bs) (t := t) (v := v) (a := a) (b := b) (j := j) (by rw [← hr.out]; exact hd.out) (by rw [haf.out, ← hr'.out]; exact hd'.out) ?_
                          rw [hok.out, hp.out]
                          exact hn)
                        cases ok with
                        | false =>
                          have hx2 : d' = d := hdd.out (fun h => absurd h.1 (by decide))
                          rw [hx2] at e0 e1 e2 e3 e4
                          replace hx2 := hide hx2
                          clear hdd
                          go_upto_region 46 with (fail)
                          go_quiet (fail)
                          go_wp2
                          go_roundw
                          case rel => exact ⟨j + 1, by omega, by go_num, below_drewN hbel _⟩
                          case measure => simp [intOf]; omega
                        | true =>
                          obtain ⟨of0, of1⟩ := hoff.out rfl
                          by_cases b1 : (b : Int) = a.block
                          · have g1 : ((b : Int) == a.block) = true := beq_iff_eq.2 b1
                            by_cases o1 : a.off ≤ j
                            · by_cases o2 : (j : Int) < a.off + p
                              · replace b1 := hide b1
                                clear e0 e1 e2 e3 e4 d0 d1 d2 d3 d4 hc8' hdd
                                go_upto_region 46 with (fail)
                                go_quiet (fail)
                                go_wp2
                                go_roundw
                                case rel => exact ⟨j + 1, by omega, by go_num, below_drewN hbel _⟩
                                case measure => simp [intOf]; omega
                              · have hx2 : d' = d := hdd.out (fun h => o2 h.2.2.2)
                                rw [hx2] at e0 e1 e2 e3 e4
                                replace hx2 := hide hx2
                                clear hdd
                                replace b1 := hide b1
                                go_upto_region 46 with (fail)
                                go_quiet (fail)
                                go_wp2
                                go_roundw
                                case rel => exact ⟨j + 1, by omega, by go_num, below_drewN hbel _⟩
                                case measure => simp [intOf]; omega
                            · have hx2 : d' = d := hdd.out (fun h => o1 h.2.2.1)
                              rw [hx2] at e0 e1 e2 e3 e4
                              replace hx2 := hide hx2
                              clear hdd
                              replace b1 := hide b1
                              go_upto_region 46 with (fail)
                              go_quiet (fail)
                              go_wp2
                              go_roundw
                              case rel => exact ⟨j + 1, by omega, by go_num, below_drewN hbel _⟩
                              case measure => simp [intOf]; omega
                          · have hx2 : d' = d := hdd.out (fun h => b1 h.2.1)
                            rw [hx2] at e0 e1 e2 e3 e4
                            replace hx2 := hide hx2
                            clear hdd
                            have g1 : ((b : Int) == a.block) = false := beq_eq_false_iff_ne.2 b1
                            replace b1 := hide b1
                            go_upto_region 46 with (fail)
                            go_quiet (fail)
                            go_wp2
                            go_roundw
                            case rel => exact ⟨j + 1, by omega, by go_num, below_drewN hbel _⟩
                            case measure => simp [intOf]; omega
                      · obtain rfl : j = m := by omega
                        go_wp2
                        go_roundw
                        case rel => exact ⟨b + 1, by omega, by go_num, hbv⟩
                        case measure => simp [intOf]; omega
                  · obtain rfl : b = k2 := by omega
                    have hb12 := hide (hwW.out.trans ((hbV2.out.trans (hbel.mono hbV2.out.size)).mono hws))
                    go_wp2
                    go_ret
                    exact ⟨rfl, hb12.out⟩
end Go.Proofs.Ytgkgmeofilkopaa
