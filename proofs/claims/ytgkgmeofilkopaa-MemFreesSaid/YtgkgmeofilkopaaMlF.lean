/- lathelaw09.MemFrees, walked. No condition but numbers within their kinds. -/
import Derived.Test.YtgkgmeofilkopaaMmS
import Derived.Test.YtgkgmeofilkopaaMwR
import Derived.Test.YtgkgmeofilkopaaMwI
import Derived.Test.YtgkgmeofilkopaaMwL
namespace Go.Proofs.Ytgkgmeofilkopaa
open Go.RowKit
set_option linter.unusedSimpArgs false
set_option linter.unusedVariables false

theorem bytesAt_nil {bs : MemS} {k : Nat} (h : bs[k]? = some none ∨ bs.length ≤ k) : bytesAt bs k = none := by
  unfold bytesAt
  rw [if_pos (by omega)]
  rcases h with h | h
  · simp [h]
  · simp [List.getElem?_eq_none h]
theorem free_self (bs : MemS) (i : Int) : bytesAt (freeS bs i) i = none := by
  unfold freeS
  cases hb : bytesAt bs i with
  | none => exact hb
  | some l =>
    obtain ⟨k, rfl, h0⟩ := bytesAt_some hb
    have hk := (List.getElem?_eq_some_iff.1 h0).1
    refine bytesAt_nil (.inl ?_)
    simp [hk]
theorem free_other (bs : MemS) (i : Int) (j : Nat) (h : (j : Int) ≠ i) : bytesAt (freeS bs i) j = (bytesAt bs j).map fun l => if (bytesAt bs i).isSome = true then l.map (cleanB i) else l := by
  unfold freeS
  cases hb : bytesAt bs i with
  | none => simp
  | some l =>
    obtain ⟨k, rfl, h0⟩ := bytesAt_some hb
    have hne : k ≠ j := fun e => h (by rw [e])
    unfold bytesAt
    rw [if_pos (by omega), if_pos (by omega)]
    simp only [Int.toNat_natCast, List.getElem?_map, List.getElem?_set_ne hne]
    cases bs[j]? with
    | none => rfl
    | some x => cases x <;> simp
theorem free_size (bs : MemS) (i : Int) : sizeS (freeS bs i) i = -1 := by unfold sizeS; rw [free_self]
theorem free_bytes (bs : MemS) (i : Int) : bytesS (freeS bs i) i = [] := by unfold bytesS; rw [free_self]; rfl
theorem free_load (bs : MemS) (i : Int) : loadS (freeS bs i) 8 ⟨2, 0, i, 0⟩ = (noV, false) := by
  unfold loadS spanS
  rw [if_pos ⟨rfl, by decide⟩]
  simp only
  rw [free_self]
theorem free_rows (bs : MemS) (i : Int) (j : Nat) (h : (j : Int) ≠ i) : bytesS (freeS bs i) j = if (bytesAt bs i).isSome = true then (bytesS bs j).map (cleanB i) else bytesS bs j := by
  unfold bytesS
  rw [free_other bs i j h]
  cases bytesAt bs j with
  | none => simp
  | some l => simp only [Option.map_some, Option.getD_some]
theorem size_alive (bs : MemS) (i : Int) : decide (0 ≤ sizeS bs i) = (bytesAt bs i).isSome := by
  unfold sizeS
  cases bytesAt bs i with
  | none => rfl
  | some l => simp
theorem NewIs.later {B : Nat} {w w' : World} {g : Nat} {bs : MemS} (h : NewIs B w g bs) (hb : Below w.heap.size w w') : NewIs B w' g bs := by
  obtain ⟨F, h1, h2⟩ := h
  exact ⟨F, h1.later hb, h2⟩
theorem OwnB.mono {w : World} {b b' : Nat} {v : Value} {l : List Byt} (h : OwnB w b v l) (hb : b' ≤ b) : OwnB w b' v l := by
  refine ⟨h.1, ?_⟩
  rcases h.2 with h1 | ⟨g, cap, cur, e, h1, rest⟩
  · exact .inl h1
  · exact .inr ⟨g, cap, cur, e, Nat.le_trans hb h1, rest⟩
theorem OwnB.later {w w' : World} {b : Nat} {v : Value} {l : List Byt} (h : OwnB w b v l) (hb : Below w.heap.size w w') : OwnB w' b v l := ownsRow_kept h fun k hk => hb.block k (own_lt h hk).2
/-- the cells of one byte of a row, in whatever later world -/
theorem OwnB.far {w : World} {base : Nat} {A : Option Addr} {n c : Nat} {l : List Byt} (h : OwnB w base (.slice A n c) l) {k : Nat} {b : Byt} (hb : l[k]? = some b) : ∃ g, A = some ⟨g, 0, none⟩ ∧
    (∀ w', Below w.heap.size w w' → w'.cell? ⟨g, k * 5, none⟩ = some (.int .i64 b.kind)) ∧ (∀ w', Below w.heap.size w w' → w'.cell? ⟨g, k * 5 + 1, none⟩ = some (.int .u8 b.bits)) ∧ (∀ w', Below w.heap.size w w' → w'.cell? ⟨g, k * 5 + 2, none⟩ = some (.int .i64 b.block)) ∧
    (∀ w', Below w.heap.size w w' → w'.cell? ⟨g, k * 5 + 3, none⟩ = some (.int .i64 b.off)) ∧ (∀ w', Below w.heap.size w w' → w'.cell? ⟨g, k * 5 + 4, none⟩ = some (.int .i64 b.i)) := by
  obtain ⟨g, e, -, hg, h1, h2, h3, h4, h5⟩ := h.at_ hb
  exact ⟨g, e, fun w' hw => (hw.cell hg).trans h1, fun w' hw => (hw.cell hg).trans h2, fun w' hw => (hw.cell hg).trans h3, fun w' hw => (hw.cell hg).trans h4, fun w' hw => (hw.cell hg).trans h5⟩
theorem info_Rows : (Try.prog.info? 48).map (fun i => (i.zero, i.size, i.bytes)) = some (some (.slice none 0 0), 1, 24) := info_Bytes

set_option maxRecDepth 100000 in
set_option maxHeartbeats 12000000 in
theorem law_frees (sizes : List Int) (steps : List Stp) (i : Int) (c0 c1 : Value) (w : World) (hr0 : (Rp.slice 1 RNum).rep w w.heap.size [c0] sizes) (hr1 : (Rp.slice 13 RStp).rep w w.heap.size [c1] steps) :
    Calls Try.prog 10 #[c0, c1, .int .i64 i] w fun e w' => e = .returned (.bool true) ∧ Below w.heap.size w w' := by
  have cNew : Hid (∀ W, Below w.heap.size w W → sizes.length ≤ 20 → Calls Try.prog 47 #[c0] W (NewPost sizes W)) := hide (fun W h hl => new_any sizes c0 W (Rp.later (R := Rp.slice 1 RNum) hr0 h h.size) (by omega))
  obtain ⟨A0, cap0, hc0, hl0, -⟩ := Rp.slice_open hr0
  obtain ⟨A1, cap1, hc1, hl1, hs1⟩ := Rp.slice_open hr1
  cases hc0
  cases hc1
  clear hr0 hr1
  replace hs1 := hide hs1
  obtain ⟨n, hn⟩ : ∃ n, Hid (n = sizes.length) := ⟨_, hide rfl⟩
  obtain ⟨nb, hnb⟩ : ∃ nb, Hid (nb = steps.length) := ⟨_, hide rfl⟩
  rw [← hn.out] at hl0 cNew ⊢
  rw [← hnb.out] at hl1 ⊢
  by_cases hbig : 20 < (n : Int) ∨ 40 < (nb : Int)
  · by_cases hb1 : 20 < (n : Int)
    · go_enter Try.func10, Try.ntmps10
      go_wp2_with (go_at_call 30; refine (lives_mem w).mono ?_; rintro e w1 ⟨rfl, hb2⟩; replace hb2 := hide hb2)
      go_ret
      exact ⟨rfl, hb2.out⟩
    · have hb3 : 40 < (nb : Int) := by omega
      replace hbig := hide hbig
      go_enter Try.func10, Try.ntmps10
      go_wp2_with (go_at_call 30; refine (lives_mem w).mono ?_; rintro e w1 ⟨rfl, hb2⟩; replace hb2 := hide hb2)
      go_ret
      exact ⟨rfl, hb2.out⟩
  have hn20 : ¬ 20 < (n : Int) := by omega
  have hn40 : ¬ 40 < (nb : Int) := by omega
  clear hbig
  obtain ⟨i0, hi0, hz0, hz1, hz2⟩ := info_parts info_Rows
  replace hi0 := hide hi0
  replace hz0 := hide hz0
  replace hz1 := hide hz1
  replace hz2 := hide hz2
  go_enter Try.func10, Try.ntmps10
  go_wp2_with fail
  refine (lives_mem w).mono ?_
  rintro e w1 ⟨rfl, hb1⟩
  replace hb1 := hide hb1
  go_wp2_with fail
  refine (cNew.out w1 hb1.out (by omega)).mono ?_
  rintro e w2 ⟨g, rfl, hN, hb2⟩
  have hN2 : NewIs w.heap.size w2 g (newS sizes) := by
    obtain ⟨F, h1, h2⟩ := hN
    exact ⟨F, h1, fun k hk => by have := h2 k hk; have := hb1.out.size; omega⟩
  have hb3 : Below w.heap.size w w2 := hb1.out.trans (hb2.mono hb1.out.size)
  replace hN2 := hide hN2
  clear hN hb2
  go_wp2_with fail
  go_loopw [8, 38] (fun u8 u38 wr => ∃ k : Nat, k ≤ nb ∧ u38 = .int .i64 k ∧ u8 = .int .i64 ((play stepF (newS sizes) (steps.take k)).length : Nat) ∧ Hid (NewIs w.heap.size wr g (play stepF (newS sizes) (steps.take k))) ∧ Below w.heap.size w wr) (fun _ u38 _ => nb - (intOf u38).toNat)
  case atStart => exact ⟨0, Nat.zero_le _, rfl, by simp [play, newS_len, hn.out], by simpa [play] using hN2, hb3⟩
  case round =>
    clear hb3 hN2
    obtain ⟨k, hk, rfl, rfl, hm, hbel⟩ := hrel
    by_cases hlt : k < nb
    · obtain ⟨s, hs⟩ := get_ex (l := steps) (k := k) (by rw [← hnb.out]; exact hlt)
      obtain ⟨q, o, rfl, hce⟩ := hs1.out (by rw [← hnb.out]; omega)
      obtain ⟨es, -, ⟨rfl, hok⟩, hcs⟩ := hce k s hs.out
      have d0 : ∀ w', Below w.heap.size w w' → w'.cell? ⟨q, o + k * 13, none⟩ = some (.int .i64 s.kind) := hcs.at_ 0 rfl
      have d1 : ∀ w', Below w.heap.size w w' → w'.cell? ⟨q, o + k * 13 + 1, none⟩ = some (.int .i64 s.a) := hcs.at_ 1 rfl
      have d2 : ∀ w', Below w.heap.size w w' → w'.cell? ⟨q, o + k * 13 + 2, none⟩ = some (.int .i64 s.b) := hcs.at_ 2 rfl
      have d3 : ∀ w', Below w.heap.size w w' → w'.cell? ⟨q, o + k * 13 + 3, none⟩ = some (.int .i64 s.t) := hcs.at_ 3 rfl
      have d4 : ∀ w', Below w.heap.size w w' → w'.cell? ⟨q, o + k * 13 + 4, none⟩ = some (.int .i64 s.v.kind) := hcs.at_ 4 rfl
      have d5 : ∀ w', Below w.heap.size w w' → w'.cell? ⟨q, o + k * 13 + 5, none⟩ = some (.int .u64 s.v.bits) := hcs.at_ 5 rfl
      have d6 : ∀ w', Below w.heap.size w w' → w'.cell? ⟨q, o + k * 13 + 6, none⟩ = some (.int .i64 s.v.block) := hcs.at_ 6 rfl
      have d7 : ∀ w', Below w.heap.size w w' → w'.cell? ⟨q, o + k * 13 + 7, none⟩ = some (.int .i64 s.v.off) := hcs.at_ 7 rfl
      have d8 : ∀ w', Below w.heap.size w w' → w'.cell? ⟨q, o + k * 13 + 8, none⟩ = some (.int .i64 s.at_.kind) := hcs.at_ 8 rfl
      have d9 : ∀ w', Below w.heap.size w w' → w'.cell? ⟨q, o + k * 13 + 9, none⟩ = some (.int .u64 s.at_.bits) := hcs.at_ 9 rfl
      have d10 : ∀ w', Below w.heap.size w w' → w'.cell? ⟨q, o + k * 13 + 10, none⟩ = some (.int .i64 s.at_.block) := hcs.at_ 10 rfl
      have d11 : ∀ w', Below w.heap.size w w' → w'.cell? ⟨q, o + k * 13 + 11, none⟩ = some (.int .i64 s.at_.off) := hcs.at_ 11 rfl
      have d12 : ∀ w', Below w.heap.size w w' → w'.cell? ⟨q, o + k * 13 + 12, none⟩ = some (.int .u8 s.byte) := hcs.at_ 12 rfl
      clear hce hcs
      go_upto_region 12 with (fail)
      obtain ⟨W, hW, hwW, hWs, qq⟩ := boxes1 wr #[.int .i64 s.kind, .int .i64 s.a, .int .i64 s.b, .int .i64 s.t, .int .i64 s.v.kind, .int .u64 s.v.bits, .int .i64 s.v.block, .int .i64 s.v.off, .int .i64 s.at_.kind, .int .u64 s.at_.bits, .int .i64 s.at_.block, .int .i64 s.at_.off, .int .u8 s.byte] 78
      rw [hW]
      clear hW d0 d1 d2 d3 d4 d5 d6 d7 d8 d9 d10 d11 d12
      have hself := Below.refl W.heap.size W
      have x0 := qq 0 _ rfl
      have x1 := qq 1 _ rfl
      have x2 := qq 2 _ rfl
      have x3 := qq 3 _ rfl
      have x4 := qq 4 _ rfl
      have x5 := qq 5 _ rfl
      have x6 := qq 6 _ rfl
      have x7 := qq 7 _ rfl
      have x8 := qq 8 _ rfl
      have x9 := qq 9 _ rfl
      have x10 := qq 10 _ rfl
      have x11 := qq 11 _ rfl
      have x12 := qq 12 _ rfl
      clear qq
      have hws : wr.heap.size ≤ W.heap.size := by omega
      replace hWs := hide hWs
      obtain ⟨bs, hbs⟩ : ∃ bs, Hid (bs = play stepF (newS sizes) (steps.take k)) := ⟨_, hide rfl⟩
      obtain ⟨L, hL⟩ : ∃ L, Hid (L = bs.length) := ⟨_, hide rfl⟩
      have hL60 : L ≤ 60 := by
        have := play_len stepF_len (steps.take k) (newS sizes)
        rw [← hbs.out, ← hL.out, newS_len, ← hn.out, List.length_take] at this
        omega
      have hsn := hide (play_snoc (f := stepF) (bs := newS sizes) hs.out)
      rw [← hbs.out] at hm hsn ⊢
      rw [← hL.out]
      obtain ⟨F, hM, hF⟩ := hm.out
      have hM1 := hide (hM.later hwW)
      have hFb := hide hF
      have hb4 := hide (hbel.trans (hwW.mono hbel.size))
      clear hwW hM hF hm
      by_cases k1 : s.kind = 1
      · have g1 : (s.kind == 1) = true := beq_iff_eq.2 k1
        have hst : Hid (stepF bs s = allocS bs s.a) := hide (by unfold stepF; rw [if_pos k1])
        rw [hst.out] at hsn
        replace k1 := hide k1
        go_wp2_with (go_at_call 48; refine (alloc_any g F bs s.a W hM1.out (by rw [← hL.out]; omega)).mono ?_; rintro e w5 ⟨rfl, hM5, hU5⟩; replace hM5 := hide hM5; replace hU5 := hide hU5)
        go_roundw
        case rel =>
          refine ⟨k + 1, by omega, by go_num, ?_, hide ⟨_, by rw [hsn.out]; exact hM5.out, ?_⟩, hb4.out.trans (hU5.out.below hb4.out.size hFb.out)⟩
          · rw [hsn.out, alloc_len, ← hL.out]; go_num
          · intro i hi
            rcases hi with hi | hi
            · exact hFb.out i hi
            · have := hb4.out.size; omega
        case measure => simp [intOf]; omega
      · by_cases k4 : s.kind = 4
        · have g1 : (s.kind == 1) = false := beq_eq_false_iff_ne.2 k1
          have g4 : (s.kind == 4) = true := beq_iff_eq.2 k4
          have hst : Hid (stepF bs s = (storeS bs s.t s.v s.at_).1) := hide (by unfold stepF; rw [if_neg k1, if_pos k4])
          rw [hst.out] at hsn
          replace k1 := hide k1
          replace k4 := hide k4
          go_wp2_with (go_at_call 49; refine (store_any g F bs s.t s.v s.at_ W hM1.out hok.v).mono ?_; rintro e w5 ⟨rfl, hM5, hU5⟩; replace hM5 := hide hM5; replace hU5 := hide hU5)
          go_roundw
          case rel => exact ⟨k + 1, by omega, by go_num, by rw [hsn.out, store_len, ← hL.out], hide ⟨F, by rw [hsn.out]; exact hM5.out, hFb.out⟩, hb4.out.trans (hU5.out.below hb4.out.size hFb.out)⟩
          case measure => simp [intOf]; omega
        · have g1 : (s.kind == 1) = false := beq_eq_false_iff_ne.2 k1
          have g4 : (s.kind == 4) = false := beq_eq_false_iff_ne.2 k4
          have hst : Hid (stepF bs s = bs) := hide (by unfold stepF; rw [if_neg k1, if_neg k4])
          rw [hst.out] at hsn
          replace k1 := hide k1
          replace k4 := hide k4
          go_wp2
          go_roundw
          case rel => exact ⟨k + 1, by omega, by go_num, by rw [hsn.out, ← hL.out], hide ⟨F, by rw [hsn.out]; exact hM1.out, hFb.out⟩, hb4.out⟩
          case measure => simp [intOf]; omega
    · obtain rfl : k = nb := by omega
      obtain ⟨bs, hbs⟩ : ∃ bs, Hid (bs = play stepF (newS sizes) (steps.take k)) := ⟨_, hide rfl⟩
      obtain ⟨L, hL⟩ : ∃ L, Hid (L = bs.length) := ⟨_, hide rfl⟩
      have hL60 : L ≤ 60 := by
        have := play_len stepF_len (steps.take k) (newS sizes)
        rw [← hbs.out, ← hL.out, newS_len, ← hn.out, List.length_take] at this
        omega
      rw [← hbs.out] at hm ⊢
      rw [← hL.out]
      obtain ⟨F, hM, hF⟩ := hm.out
      clear hbs hm hs1 cNew
      obtain ⟨U, hU⟩ : ∃ U, U = wr := ⟨_, rfl⟩
      rw [← hU] at hM hbel ⊢
      clear hU
      have hlt0 := hM.lt
      replace hF := hide hF
      replace hlt0 := hide hlt0
      have hselfU := Below.refl U.heap.size U
      have hbU := hide hbel
      replace hM := hide hM
      clear hbel
      go_wp2_with fail
      go_loopw [11, 12] (fun u11 u12 wr => ∃ k : Nat, k ≤ L ∧ u12 = .int .i64 k ∧ Hid (Was wr U.heap.size u11 (rowsS bs k)) ∧ Below U.heap.size U wr) (fun _ u12 _ => L - (intOf u12).toNat)
      case atStart => exact ⟨0, Nat.zero_le _, rfl, hide (Was.nil_ _ _), hselfU⟩
      case round =>
        clear hselfU
        obtain ⟨k2, hk2, rfl, hwas, hbel⟩ := hrel
        by_cases hlt2 : k2 < L
        · have hM2 := hide (hM.out.later hbel)
          have hBy := hide (bytes_any g F bs k2 wr hM2.out)
          obtain ⟨xs, hown, hxs⟩ := hwas.out
          rw [rowsS_len] at hown
          replace hown := hide hown
          replace hxs := hide hxs
          have hbs2 := hbel.size
          go_wp2_with (first
            | (go_at_call 50
               refine hBy.out.mono ?_
               rintro e w5 ⟨A5, c5, rfl, hO5, hb5⟩
               have hO6 := hide (hO5.mono hbs2)
               have hown5 := hide (ownsRow_kept hown.out fun j hj => hb5.block j (own_lt hown.out hj).2)
               have hxs5 : Hid (∀ (i : Nat) x y, xs[i]? = some x → (rowsS bs k2)[i]? = some y → OwnB w5 U.heap.size x y) := hide (fun i x y h1 h2 => (hxs.out i x y h1 h2).later hb5)
               have hb6 := hbel.trans (hb5.mono hbs2)
               have hbs6 := hb6.size
               obtain ⟨m5, hm5⟩ : ∃ m5, Hid (m5 = (bytesS bs k2).length) := ⟨_, hide rfl⟩
               rw [← hm5.out] at hO6 ⊢
               clear hO5 hb5)
            | (at_builtin
               refine wpList_append_own _ rfl (.tmp 68) (.tmp 72) _ rfl U.heap.size 48 i0 _ 1 24 Try.underlying81 hi0.out hz0.out hz1.out hz2.out rfl (by omega) u11 _ _ rfl (hown5.out.alloc _) ⟨w5.heap.size, 0, none⟩ 1 1 [.slice A5 m5 c5] rfl rfl ?c1 ?c2 ?c3 ?c4 ?c5 ?_
               case c1 => exact World.news_of_block (cs := #[.slice A5 m5 c5]) (t := 48) (fr := (0, 0)) (heap_alloc_new w5 _)
               case c2 => simp [Value.oneCell']
               case c3 => unfold maxLen; omega
               case c4 => omega
               case c5 => simp; omega
               intro v1 w6 hown1 hg1 _
               have hb7 : Below U.heap.size U w6 := (hb6.alloc hbs6 _).grown hg1 (by simp; omega) (fun j hj => (own_lt hown5.out hj).1)
               have hW7 := hide (Was.snoc (by rw [rowsS_len]; exact hown5.out) hxs5.out hO6.out (by rw [rowsS_len]; exact hown1) hg1)
               clear hown1 hg1))
          go_roundw
          case rel => exact ⟨k2 + 1, by omega, by go_num, by rw [rowsS_snoc]; exact hW7, hb7⟩
          case measure => simp [intOf]; omega
        · obtain rfl : k2 = L := by omega
          obtain ⟨V, hV⟩ : ∃ V, V = wr := ⟨_, rfl⟩
          rw [← hV] at hwas hbel ⊢
          clear hV
          have hMV := hide (hM.out.later hbel)
          have hbV := hide (hbU.out.trans (hbel.mono hbU.out.size))
          obtain ⟨al, hal⟩ : ∃ al, Hid ((bytesAt bs i).isSome = al) := ⟨_, hide rfl⟩
          obtain ⟨z, hz⟩ : ∃ z, Hid (sizeS bs i = z) := ⟨_, hide rfl⟩
          have hza : decide (0 ≤ z) = al := by rw [← hz.out, size_alive, hal.out]
          have hFr := hide (free_any g F bs i V hMV.out)
          have hSz := hide (size_any g F bs i V hMV.out)
          rw [hz.out] at hSz
          clear hbel
          obtain ⟨A11, C11, hu11, -⟩ := hwas.out.form
          rw [rowsS_len] at hu11
          subst hu11
          go_upto_region 26 with (first | (go_at_call 51; refine hSz.out.mono ?_; rintro e w5 ⟨rfl, rfl⟩) | (go_at_call 52; refine hFr.out.mono ?_; rintro e V2 ⟨rfl, hM2, hU2⟩; replace hM2 := hide hM2; replace hU2 := hide hU2))
          have hW2 := hide (hwas.out.upd hU2.out hlt0.out)
          have hbV2 := hide (hbV.out.trans (hU2.out.below hbV.out.size hF.out))
          have cSz : Hid (∀ W, Below V2.heap.size V2 W → Calls Try.prog 51 #[.pointer (some ⟨g, 0, none⟩), .int .i64 i] W fun e w' => e = .returned (.int .i64 (-1)) ∧ W = w') := hide (fun W hW => by
            have := size_any g F _ i W (hM2.out.later hW)
            rwa [free_size] at this)
          have cBy : Hid (∀ W, Below V2.heap.size V2 W → ∀ b, Calls Try.prog 50 #[.pointer (some ⟨g, 0, none⟩), .int .i64 b] W (BytesPost (bytesS (freeS bs i) b) W)) := hide (fun W hW b => bytes_any g F _ b W (hM2.out.later hW))
          have cBy0 : Hid (∀ W, Below V2.heap.size V2 W → Calls Try.prog 50 #[.pointer (some ⟨g, 0, none⟩), .int .i64 i] W (BytesPost [] W)) := hide (fun W hW => by have := cBy.out W hW i; rwa [free_bytes] at this)
          have cLd := hide (load_any g F (freeS bs i) 8 ⟨2, 0, i, 0⟩ V2 hM2.out)
          rw [free_load] at cLd
          clear hFr hSz hMV hU2 hbV hwas hM hbU
          go_upto_region 27 with (go_at_call 53; refine cLd.out.mono ?_; rintro e w7 ⟨rfl, hb7⟩)
          have hb8 : Below V2.heap.size V2 (w7.alloc (.cells #[.int .i64 0, .int .u64 0, .int .i64 0, .int .i64 0] 47)) := hb7.alloc hb7.size _
          obtain ⟨X, hX⟩ : ∃ X, X = w7.alloc (.cells #[.int .i64 0, .int .u64 0, .int .i64 0, .int .i64 0] 47) := ⟨_, rfl⟩
          rw [← hX] at hb8 ⊢
          clear hX
          go_upto_region 29 with (first | (go_at_call 51; refine (cSz.out X hb8).mono ?_; rintro e w5 ⟨rfl, rfl⟩) | (go_at_call 50; refine (cBy0.out X hb8).mono ?_; rintro e w9 ⟨A9, c9, rfl, -, hb9⟩; have hb10 := hb8.trans (hb9.mono hb8.size); clear hb9))
          clear hb8 cBy0 cSz cLd hb7 hza
          have hM2' := hM2
          clear hM2'
          go_wp2_with fail
          go_loopw [16] (fun u16 wr => ∃ b : Nat, b ≤ k2 ∧ u16 = .int .i64 b ∧ Below V2.heap.size V2 wr) (fun u16 _ => k2 - (intOf u16).toNat)
          case atStart => exact ⟨0, Nat.zero_le _, rfl, hb10⟩
          case round =>
            clear hb10
            obtain ⟨b, hb, rfl, hbel⟩ := hrel
            by_cases hlt3 : b < k2
            · have cB := hide (cBy.out wr hbel b)
              have hwr := hide hbel
              by_cases hbi : (b : Int) = i
              · have g1 : ((b : Int) == i) = true := beq_iff_eq.2 hbi
                replace hbi := hide hbi
                clear hbel
                go_wp2_with (go_at_call 50; refine cB.out.mono ?_; rintro e w9 ⟨A9, c9, rfl, -, hb9⟩; have hb11 := hwr.out.trans (hb9.mono hwr.out.size); clear hb9)
                go_roundw
                case rel => exact ⟨b + 1, by omega, by go_num, hb11⟩
                case measure => simp [intOf]; omega
              · have g1 : ((b : Int) == i) = false := beq_eq_false_iff_ne.2 hbi
                have hrow := free_rows bs i b hbi
                rw [hal.out] at hrow
                obtain ⟨y, hy⟩ : ∃ y, Hid (y = bytesS bs b) := ⟨_, hide rfl⟩
                obtain ⟨y', hy'⟩ : ∃ y', Hid (y' = bytesS (freeS bs i) b) := ⟨_, hide rfl⟩
                rw [← hy.out, ← hy'.out] at hrow
                have hyl : y'.length = y.length := by rw [hrow]; split <;> simp
                have hy4 := (hM2.out.okb b).2
                rw [← hy'.out] at hy4
                obtain ⟨m, hm⟩ : ∃ m, Hid (m = y.length) := ⟨_, hide rfl⟩
                have hm' : Hid (m = y'.length) := hide (by rw [hm.out, hyl])
                rw [← hm'.out] at hy4
                rw [← hy'.out] at cB
                replace hbi := hide hbi
                replace hrow := hide hrow
                clear hyl hbel
                go_upto_region 34 with (go_at_call 50; refine cB.out.mono ?_; rintro e w9 ⟨A9, c9, rfl, hO9, hb9⟩; have hb11 := hwr.out.trans (hb9.mono hwr.out.size); replace hO9 := hide hO9; clear hb9)
                have hW9 := hide (hW2.out.later hb11)
                obtain ⟨g9, C9, A8, c8, hu9, -, hc8, hO8⟩ := hW9.out.at_ (i := b) (y := y) (by rw [rowsS_at bs hlt3, hy.out])
                rw [rowsS_len] at hu9
                cases hu9
                rw [← hm.out] at hc8 hO8
                rw [← hm'.out] at hO9
                rw [← hm'.out]
                replace hO8 := hide hO8
                have hc8' : ∀ w', Below w9.heap.size w9 w' → w'.cell? ⟨g9, b, none⟩ = some (.slice A8 m c8) := fun w' h => (h.cell (p := ⟨g9, b, none⟩) (World.block_lt_of_cell? w9 _ hc8)).trans hc8
                have hself9 := Below.refl w9.heap.size w9
                have hnn : ((m : Int) != (m : Int)) = false := by simp
                go_wp2_with fail
                go_loopw [126] (fun u126 wr => ∃ j : Nat, j ≤ m ∧ u126 = .int .i64 j ∧ Below w9.heap.size w9 wr) (fun u126 _ => m - (intOf u126).toNat)
                case atStart => exact ⟨0, Nat.zero_le _, rfl, hself9⟩
                case round =>
                  clear hc8 hself9
                  obtain ⟨j, hj, rfl, hbel⟩ := hrel
                  by_cases hlt4 : j < m
                  · obtain ⟨x, hx⟩ := get_ex (l := y) (k := j) (by rw [← hm.out]; exact hlt4)
                    obtain ⟨x', hx'⟩ := get_ex (l := y') (k := j) (by rw [← hm'.out]; exact hlt4)
                    obtain ⟨q1, rfl, d0, d1, d2, d3, d4⟩ := hO8.out.far hx.out
                    obtain ⟨q2, rfl, e0, e1, e2, e3, e4⟩ := hO9.out.far hx'.out
                    have hxx : x' = if al = true then cleanB i x else x := by
                      have h1 := hx'.out
                      rw [hrow.out] at h1
                      split at h1
                      · rename_i ha; rw [if_pos ha]; rw [List.getElem?_map, hx.out] at h1; simpa using h1.symm
                      · rename_i ha; rw [if_neg ha]; rw [hx.out] at h1; simpa using h1.symm
                    replace hxx := hide hxx
                    go_upto_region 39 with (fail)
                    have hbx := hbel.alloc hbel.size (.cells #[.int .i64 x.kind, .int .u8 x.bits, .int .i64 x.block, .int .i64 x.off, .int .i64 x.i] 54)
                    have hZ := box_top wr (.cells #[.int .i64 x.kind, .int .u8 x.bits, .int .i64 x.block, .int .i64 x.off, .int .i64 x.i] 54)
                    obtain ⟨Z, hZe⟩ : ∃ Z, Z = wr.alloc (.cells #[.int .i64 x.kind, .int .u8 x.bits, .int .i64 x.block, .int .i64 x.off, .int .i64 x.i] 54) := ⟨_, rfl⟩
                    rw [← hZe] at hbx hZ ⊢
                    clear hZe
                    obtain ⟨N, hN⟩ : ∃ N, N = wr.heap.size := ⟨_, rfl⟩
                    have hN9 : w9.heap.size ≤ N := by rw [hN]; exact hbel.size
                    rw [← hN] at hZ ⊢
                    clear hN hbel d0 d1 d2 d3 d4
                    obtain ⟨r0, r1, r2, r3, r4⟩ := five_cells hZ
                    cases al with
                    | false =>
                      have hx2 : x' = x := by rw [hxx.out]; rw [if_neg (by decide)]
                      clear hxx
                      rw [hx2] at e0 e1 e2 e3 e4
                      replace hx2 := hide hx2
                      replace hZ := hide hZ
                      go_upto_region 41 with (fail)
                      go_quiet (fail)
                      go_wp2
                      go_roundw
                      case rel => exact ⟨j + 1, by omega, by go_num, below_drewN hbx _⟩
                      case measure => simp [intOf]; omega
                    | true =>
                      by_cases t1 : x.kind = 2
                      · by_cases t2 : x.block = i
                        · have hx2 : x' = zb := by rw [hxx.out, if_pos rfl]; unfold cleanB; rw [if_pos ⟨t1, t2⟩]
                          clear hxx
                          rw [hx2] at e0 e1 e2 e3 e4
                          replace hx2 := hide hx2
                          have e0' : ∀ w', Below w9.heap.size w9 w' → w'.cell? ⟨q2, j * 5, none⟩ = some (.int .i64 0) := e0
                          have e1' : ∀ w', Below w9.heap.size w9 w' → w'.cell? ⟨q2, j * 5 + 1, none⟩ = some (.int .u8 0) := e1
                          have e2' : ∀ w', Below w9.heap.size w9 w' → w'.cell? ⟨q2, j * 5 + 2, none⟩ = some (.int .i64 0) := e2
                          have e3' : ∀ w', Below w9.heap.size w9 w' → w'.cell? ⟨q2, j * 5 + 3, none⟩ = some (.int .i64 0) := e3
                          have e4' : ∀ w', Below w9.heap.size w9 w' → w'.cell? ⟨q2, j * 5 + 4, none⟩ = some (.int .i64 0) := e4
                          clear e0 e1 e2 e3 e4
                          have f0 := one_free (j := 0) hZ
                          have f1 := one_free (j := 1) hZ
                          have f2 := one_free (j := 2) hZ
                          have f3 := one_free (j := 3) hZ
                          have f4 := one_free (j := 4) hZ
                          have g1 : (x.kind == 2) = true := beq_iff_eq.2 t1
                          have g2 : (x.block == i) = true := beq_iff_eq.2 t2
                          replace t1 := hide t1
                          replace t2 := hide t2
                          go_upto_region 41 with (fail)
                          have hZ5 := set_five (a' := .int .i64 0) (b' := .int .u8 0) (c' := .int .i64 0) (d' := .int .i64 0) (e' := .int .i64 0) hZ
                          have hbx5 := ((((hbx.setCell (p := ⟨N, 0, none⟩) hN9 (.int .i64 0)).setCell (p := ⟨N, 1, none⟩) hN9 (.int .u8 0)).setCell (p := ⟨N, 2, none⟩) hN9 (.int .i64 0)).setCell (p := ⟨N, 3, none⟩) hN9 (.int .i64 0)).setCell (p := ⟨N, 4, none⟩) hN9 (.int .i64 0)
                          obtain ⟨Z5, hZe⟩ : ∃ Z5, Z5 = ((((Z.setCell ⟨N, 0, none⟩ (.int .i64 0)).setCell ⟨N, 1, none⟩ (.int .u8 0)).setCell ⟨N, 2, none⟩ (.int .i64 0)).setCell ⟨N, 3, none⟩ (.int .i64 0)).setCell ⟨N, 4, none⟩ (.int .i64 0) := ⟨_, rfl⟩
                          rw [← hZe] at hZ5 hbx5 ⊢
                          clear hZe r0 r1 r2 r3 r4 f0 f1 f2 f3 f4 hbx
                          obtain ⟨r0, r1, r2, r3, r4⟩ := five_cells hZ5
                          replace hZ5 := hide hZ5
                          replace hZ := hide hZ
                          go_quiet (fail)
                          go_wp2
                          go_roundw
                          case rel => exact ⟨j + 1, by omega, by go_num, below_drewN hbx5 _⟩
                          case measure => simp [intOf]; omega
                        · have hx2 : x' = x := by rw [hxx.out]; rw [if_pos rfl]; unfold cleanB; rw [if_neg (fun h => t2 h.2)]
                          clear hxx
                          rw [hx2] at e0 e1 e2 e3 e4
                          replace hx2 := hide hx2
                          replace hZ := hide hZ
                          have g1 : (x.kind == 2) = true := beq_iff_eq.2 t1
                          have g2 : (x.block == i) = false := beq_eq_false_iff_ne.2 t2
                          replace t1 := hide t1
                          replace t2 := hide t2
                          go_upto_region 41 with (fail)
                          go_quiet (fail)
                          go_wp2
                          go_roundw
                          case rel => exact ⟨j + 1, by omega, by go_num, below_drewN hbx _⟩
                          case measure => simp [intOf]; omega
                      · have hx2 : x' = x := by rw [hxx.out]; rw [if_pos rfl]; unfold cleanB; rw [if_neg (fun h => t1 h.1)]
                        clear hxx
                        rw [hx2] at e0 e1 e2 e3 e4
                        replace hx2 := hide hx2
                        replace hZ := hide hZ
                        have g1 : (x.kind == 2) = false := beq_eq_false_iff_ne.2 t1
                        replace t1 := hide t1
                        go_upto_region 41 with (fail)
                        go_quiet (fail)
                        go_wp2
                        go_roundw
                        case rel => exact ⟨j + 1, by omega, by go_num, below_drewN hbx _⟩
                        case measure => simp [intOf]; omega
                  · obtain rfl : j = m := by omega
                    have hb12 := hide (hb11.trans (hbel.mono hb11.size))
                    go_wp2
                    go_roundw
                    case rel => exact ⟨b + 1, by omega, by go_num, hb12.out⟩
                    case measure => simp [intOf]; omega
            · obtain rfl : b = k2 := by omega
              have hb12 := hide (hbV2.out.trans (hbel.mono hbV2.out.size))
              go_wp2
              go_ret
              exact ⟨rfl, hb12.out⟩
end Go.Proofs.Ytgkgmeofilkopaa
