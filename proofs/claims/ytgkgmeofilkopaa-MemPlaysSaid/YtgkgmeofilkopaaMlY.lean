/- lathelaw09.MemPlays, walked. No condition but numbers within their kinds. -/
import Derived.Test.YtgkgmeofilkopaaRwI
import Derived.Test.YtgkgmeofilkopaaMwL
namespace Go.Proofs.Ytgkgmeofilkopaa
open Go.RowKit
set_option linter.unusedSimpArgs false
set_option linter.unusedVariables false

theorem info_int : (Try.prog.info? 3).map (fun i => (i.zero, i.size, i.bytes)) = some (some (.int .i64 0), 1, 8) := by kernel_rfl
/-- both memories, alike and apart -/
def Both (w : World) (base g : Nat) (c : Value) (bs : MemS) : Prop := base ≤ w.heap.size ∧ ∃ (F : Nat → Prop) (B E : Nat), MemIs w g F bs ∧ RefM w B E c bs ∧ (∀ k, F k → k < B ∨ E ≤ k) ∧ ∀ k, F k → base ≤ k
theorem Both.later {w w' : World} {base g : Nat} {c : Value} {bs : MemS} (h : Both w base g c bs) (hb : Below w.heap.size w w') : Both w' base g c bs := by
  obtain ⟨h0, F, B, E, h1, h2, h3, h4⟩ := h
  exact ⟨Nat.le_trans h0 hb.size, F, B, E, h1.later hb, h2.later hb, h3, h4⟩
theorem ints_news (l : List Int) : ∀ v ∈ l.map (fun z => Value.int .i64 z), v.oneCell' = true := by
  intro v hv
  obtain ⟨z, -, rfl⟩ := List.mem_map.1 hv
  rfl
theorem ints_flat (l : List Int) : (l.map fun z => [Value.int .i64 z]).flatten = l.map fun z => Value.int .i64 z := by
  induction l with
  | nil => rfl
  | cons z l ih => rw [List.map_cons, List.flatten_cons, ih]; rfl
theorem ints_rep {w : World} {base : Nat} {v : Value} {l : List Int} (h : w.ownsRow base 3 1 v l.length (l.map fun z => Value.int .i64 z)) : (Rp.slice 1 RNum).rep w w.heap.size [v] l := by
  refine Own.rep (R := RNum) (B := 0) (base := base) (T := 3) ⟨l.map fun z => [.int .i64 z], by simp, ?_, fun i es y h1 h2 => ?_⟩ (Nat.zero_le _)
  · rw [ints_flat]; exact h
  · rw [List.getElem?_map, h2] at h1
    cases h1
    exact ⟨rfl, rfl, trivial⟩

set_option maxRecDepth 100000 in
set_option maxHeartbeats 12000000 in
theorem law_plays (sizes : List Int) (steps : List Stp) (c0 c1 : Value) (w : World) (hr0 : (Rp.slice 1 RNum).rep w w.heap.size [c0] sizes) (hr1 : (Rp.slice 13 RStp).rep w w.heap.size [c1] steps) :
    Calls Try.prog 13 #[c0, c1] w fun e w' => e = .returned (.bool true) ∧ Below w.heap.size w w' := by
  have cNew : Hid (∀ W, Below w.heap.size w W → sizes.length ≤ 20 → Calls Try.prog 58 #[c0] W (RNewPost (newS sizes) W)) := hide (fun W h hl => rnew_any sizes c0 W (Rp.later (R := Rp.slice 1 RNum) hr0 h h.size) (by omega))
  obtain ⟨A0, cap0, hc0, hl0, hs0⟩ := Rp.slice1_open hr0
  obtain ⟨A1, cap1, hc1, hl1, hs1⟩ := Rp.slice_open hr1
  cases hc0
  cases hc1
  clear hr0 hr1
  have hnone : Hid (A0 = none → sizes.length = 0) := hide (fun e => by
    rcases Nat.eq_zero_or_pos sizes.length with h | h
    · exact h
    · obtain ⟨b, off, h1, -⟩ := hs0 h
      rw [e] at h1; cases h1)
  have hnews : Hid (∀ W, Below w.heap.size w W → ∀ ad, A0 = some ad → ∀ j u, (sizes.map fun z => Value.int .i64 z)[j]? = some u → W.cell? (ad.add j) = some u) := hide (fun W hW ad had j u hu => by
    rw [List.getElem?_map] at hu
    cases hz : sizes[j]? with
    | none => rw [hz] at hu; cases hu
    | some z =>
      rw [hz] at hu
      cases hu
      obtain ⟨b, off, h1, h2⟩ := hs0 (by have := (List.getElem?_eq_some_iff.1 hz).1; omega)
      rw [h1] at had
      cases had
      obtain ⟨cc, ⟨h3, -⟩, h4⟩ := h2 j z hz
      cases h3
      rw [show (⟨b, off, none⟩ : Addr).add j = ⟨b, off + j, none⟩ from add_mk b off j]
      exact h4 W hW)
  replace hs1 := hide hs1
  obtain ⟨n, hn⟩ : ∃ n, Hid (n = sizes.length) := ⟨_, hide rfl⟩
  obtain ⟨nb, hnb⟩ : ∃ nb, Hid (nb = steps.length) := ⟨_, hide rfl⟩
  rw [← hn.out] at hl0 cNew hnone ⊢
  rw [← hnb.out] at hl1 ⊢
  clear hs0
  by_cases hbig : 20 < (n : Int) ∨ 40 < (nb : Int)
  · by_cases hb1 : 20 < (n : Int)
    · go_enter Try.func13, Try.ntmps13
      go_wp2_with (go_at_call 30; refine (lives_mem w).mono ?_; rintro e w1 ⟨rfl, hb2⟩; replace hb2 := hide hb2)
      go_ret
      exact ⟨rfl, hb2.out⟩
    · have hb3 : 40 < (nb : Int) := by omega
      replace hbig := hide hbig
      go_enter Try.func13, Try.ntmps13
      go_wp2_with (go_at_call 30; refine (lives_mem w).mono ?_; rintro e w1 ⟨rfl, hb2⟩; replace hb2 := hide hb2)
      go_ret
      exact ⟨rfl, hb2.out⟩
  have hn20 : ¬ 20 < (n : Int) := by omega
  have hn40 : ¬ 40 < (nb : Int) := by omega
  have hn21 : n ≤ 20 := by omega
  clear hbig
  obtain ⟨i0, hi0, hz0, hz1, hz2⟩ := info_parts info_int
  replace hi0 := hide hi0
  replace hz0 := hide hz0
  replace hz1 := hide hz1
  replace hz2 := hide hz2
  go_enter Try.func13, Try.ntmps13
  go_wp2_with fail
  refine (lives_mem w).mono ?_
  rintro e w1 ⟨rfl, hb1⟩
  have hws1 := hb1.size
  have hsrc := hide (hnews.out _ (hb1.alloc hws1 (.cells #[] 3)))
  have hba := hide (hb1.alloc hws1 (.cells #[] 3))
  have hown0 := hide (World.ownsRow_lit (base := w1.heap.size) (e := 3) (size := 1) w1 #[] 0 (Nat.le_refl _) (Nat.zero_le _) rfl)
  replace hb1 := hide hb1
  clear hnews
  go_upto_region 6 with (at_builtin; refine wpList_append_any _ rfl (.tmp 25) (.tmp 26) _ rfl w1.heap.size 3 i0 _ 1 8 Try.underlying22 hi0.out hz0.out hz1.out hz2.out rfl (by omega) (.slice (some ⟨w1.heap.size, 0, none⟩) 0 0) 0 [] rfl hown0.out A0 n cap0 (sizes.map fun z => Value.int .i64 z) rfl (by rw [List.length_map, ← hn.out]; omega) hnone.out hsrc.out (ints_news _) (by unfold maxLen; omega) (by omega) (by simp) ?_; intro v1 Y hownY hgY; replace hownY := hide hownY; replace hgY := hide hgY)
  have hbY : Below w.heap.size w Y := hba.out.grown hgY.out (by simp; omega) (fun k hk => by simp [Value.ownBlock] at hk; omega)
  have hO : Y.ownsRow w1.heap.size 3 1 v1 n (sizes.map fun z => Value.int .i64 z) := by
    have := hownY.out
    simpa using this
  have hsY : w1.heap.size ≤ Y.heap.size := by have := hgY.out.size; simp at this; omega
  clear hownY hgY hown0 hsrc hba
  have cNew2 := hide (new_any sizes v1 Y (ints_rep (by rw [← hn.out]; exact hO)) (by rw [← hn.out]; omega))
  obtain ⟨A5, c5, rfl⟩ : ∃ A5 c5, v1 = .slice A5 n c5 := by
    rcases hO.2 with ⟨h1, h2⟩ | ⟨g, cp, cur, h1, h2, _⟩
    · exact ⟨none, 0, by rw [h1]; congr 1; omega⟩
    · exact ⟨_, cp, h1⟩
  replace hO := hide hO
  go_upto_region 7 with (go_at_call 47; refine cNew2.out.mono ?_; rintro e w2 ⟨g, rfl, hN, hb2⟩; replace hN := hide hN)
  clear cNew2
  have hbb2 := hbY.trans (hb2.mono hbY.size)
  go_upto_region 8 with (go_at_call 58; refine (cNew.out w2 hbb2 (by omega)).mono ?_; rintro e w3 ⟨c, rfl, hR, hb3⟩; replace hR := hide hR)
  clear cNew
  have hbb3 := hbb2.trans (hb3.mono hbb2.size)
  have hO3 : Hid (w3.ownsRow w1.heap.size 3 1 (.slice A5 n c5) n (sizes.map fun z => Value.int .i64 z)) := hide (ownsRow_kept hO.out fun k hk => by
    have h1 := (own_lt hO.out hk).2
    exact (hb3.block k (Nat.lt_of_lt_of_le h1 hb2.size)).trans (hb2.block k h1))
  have hOl := hide (fun k hk => own_lt hO.out (k := k) hk)
  obtain ⟨F, hMF, hFF⟩ := hN.out
  have hM3 := hide (hMF.later hb3)
  have hM2l := hide hMF.lt
  have hs2 := hide hb2.size
  have hs3 := hide hb3.size
  replace hFF := hide hFF
  have hselfU : Upd (fun k => w1.heap.size ≤ k ∧ k < Y.heap.size) w3 w3 := Upd.of_below (Below.refl _ _)
  have hbb3' := hide hbb3
  clear hO hN hMF hbY hbb2 hbb3 hb2 hb3
  go_wp2_with fail
  go_loopw [36] (fun u36 wr => ∃ j : Nat, j ≤ n ∧ u36 = .int .i64 j ∧ Hid (∃ xs, wr.ownsRow w1.heap.size 3 1 (.slice A5 n c5) n xs) ∧ Hid (Upd (fun k => w1.heap.size ≤ k ∧ k < Y.heap.size) w3 wr)) (fun u36 _ => n - (intOf u36).toNat)
  case atStart => exact ⟨0, Nat.zero_le _, rfl, hide ⟨_, hO3.out⟩, hide hselfU⟩
  case round =>
    clear hselfU
    obtain ⟨j, hj, rfl, hX, hu⟩ := hrel
    obtain ⟨xs, hx⟩ := hX.out
    by_cases hlt : j < n
    · obtain ⟨q, rfl, hq1, hq2⟩ : ∃ q, A5 = some ⟨q, 0, none⟩ ∧ w1.heap.size ≤ q ∧ q < Y.heap.size := by
        rcases hx.2 with ⟨h1, h2⟩ | ⟨q, cp, cur, h1, h2, _⟩
        · omega
        · cases h1; exact ⟨q, rfl, hOl.out q rfl⟩
      have hlx : xs.length = n := by have := hx.1; omega
      obtain ⟨y, hy⟩ := get_ex (l := xs) (k := j) (by omega)
      have r0 : wr.cell? ⟨q, j, none⟩ = some y := by rw [World.ownsRow.cellAt hx j (by omega)]; exact hy.out
      have f0 : wr.frozen? ⟨q, j, none⟩ = false := World.ownsRow.frozenAt hx j
      have hst := hide (hx.stored j (.int .i64 (-1))).1
      have hu2 := hide (hu.out.setCell (p := ⟨q, j, none⟩) ⟨hq1, hq2⟩ (.int .i64 (-1)))
      replace hx := hide hx
      replace hlx := hide hlx
      go_wp2
      go_roundw
      case rel => exact ⟨j + 1, by omega, by go_num, hide ⟨_, hst.out⟩, hu2⟩
      case measure => simp [intOf]; omega
    · obtain rfl : j = n := by omega
      have hM4 : MemIs wr g F (newS sizes) := hM3.out.kept (fun k hk => hu.out.block k (hM3.out.lt k hk) (fun h => by have := hFF.out k hk; omega)) hu.out.size
      have hR4 : RefM wr w2.heap.size w3.heap.size c (newS sizes) := hR.out.upd hu.out (fun k hk => by have := hs2.out; omega)
      have hb4 : Below w.heap.size w wr := hbb3'.out.trans (hu.out.below hbb3'.out.size (fun k hk => by omega))
      have hT : Hid (Both wr w.heap.size g c (newS sizes)) := hide ⟨hb4.size, F, w2.heap.size, w3.heap.size, hM4, hR4, fun k hk => .inl (hM2l.out k hk), fun k hk => by have := hFF.out k hk; omega⟩
      clear hX hu hx hM3 hM2l hR hO3 hOl hM4 hR4 hbb3' hFF hs2 hs3
      go_wp2_with fail
      go_loopw [7, 45] (fun u7 u45 wr => ∃ k : Nat, k ≤ nb ∧ u45 = .int .i64 k ∧ Hid (Both wr w.heap.size g u7 (play stepK (newS sizes) (steps.take k))) ∧ Below w.heap.size w wr) (fun _ u45 _ => nb - (intOf u45).toNat)
      case atStart => exact ⟨0, Nat.zero_le _, rfl, by simpa [play] using hT, hb4⟩
      case round =>
        clear hT hb4
        obtain ⟨k, hk, rfl, hT, hbel⟩ := hrel
        have hlen := play_len stepK_len (steps.take k) (newS sizes)
        rw [newS_len, ← hn.out, List.length_take] at hlen
        obtain ⟨bs, hbs⟩ : ∃ bs, Hid (bs = play stepK (newS sizes) (steps.take k)) := ⟨_, hide rfl⟩
        rw [← hbs.out] at hT hlen
        have hbl : Hid (bs.length ≤ 1000) := hide (by omega)
        clear hlen
        obtain ⟨h0, F2, B, E, hM, hR, hd, hFb⟩ := hT.out
        by_cases hlt : k < nb
        · obtain ⟨s, hs⟩ := get_ex (l := steps) (k := k) (by rw [← hnb.out]; exact hlt)
          obtain ⟨q, o, rfl, hce⟩ := hs1.out (by rw [← hnb.out]; omega)
          obtain ⟨es, -, ⟨rfl, hok⟩, hcs⟩ := hce k s hs.out
          have hsn := hide (play_snoc (f := stepK) (bs := newS sizes) hs.out)
          rw [← hbs.out] at hsn
          have hbl2 : Hid ((stepK bs s).length ≤ 100000) := hide (by rw [stepK_len]; have := hbl.out; split <;> omega)
          have d0 : ∀ w', Below w.heap.size w w' → w'.cell? ⟨q, o + k * 13, none⟩ = some (.int .i64 s.kind) := hcs.at_ 0 rfl
          have d1 : ∀ w', Below w.heap.size w w' → w'.cell? ⟨q, o + k * 13 + 1, none⟩ = some (.int .i64 s.a) := hcs.at_ 1 rfl
          have d2 : ∀ w', Below w.heap.size w w' → w'.cell? ⟨q, o + k * 13 + 2, none⟩ = some (.int .i64 s.b) := hcs.at_ 2 rfl
          have d3 : ∀ w', Below w.heap.size w w' → w'.cell? ⟨q, o + k * 13 + 3, none⟩ = some (.int .i64 s.t) := hcs.at_ 3 rfl
          have d4 : ∀ w', Below w.heap.size w w' → w'.cell? ⟨q, o + k * 13 + 4, none⟩ = some (.int .i64 s.v.kind) := hcs.at_ 4 rfl
          have d5 : ∀ w', Below w.heap.size w w' → w'.cell? ⟨q, o + k * 13 + 5, none⟩ = some (.int .u64 s.v.bits) := hcs.at_ 5 rfl
          have d6 : ∀ w', Below w.heap.size w w' → w'.cell? ⟨q, o + k * 13 + 6, none⟩ = some (.int .i64 s.v.block) := hcs.at_ 6 rfl
          have d7 : ∀ w', Below w.heap.size w w' → w'.cell? ⟨q, o + k * 13 + 7, none⟩ = some (.int .i64 s.v.off) := hcs.at_ 7 rfl
          have d8 : ∀ w', Below w.heap.size w w' → w'.cell? ⟨q, o + k * 13 + 8, none⟩ = some (.int .i64 s.at_.kind) := hcs.at_ 8 rfl
          have d9 : ∀ w', Below w.heap.size w w' → w'.cell? ⟨q, o + k * 13 + 9, none⟩ = some (.int .u64 s.at_.bits) := hcs.at_ 9 rfl
          have d10 : ∀ w', Below w.heap.size w w' → w'.cell? ⟨q, o + k * 13 + 10, none⟩ = some (.int .i64 s.at_.block) := hcs.at_ 10 rfl
          have d11 : ∀ w', Below w.heap.size w w' → w'.cell? ⟨q, o + k * 13 + 11, none⟩ = some (.int .i64 s.at_.off) := hcs.at_ 11 rfl
          have d12 : ∀ w', Below w.heap.size w w' → w'.cell? ⟨q, o + k * 13 + 12, none⟩ = some (.int .u8 s.byte) := hcs.at_ 12 rfl
          clear hce hcs
          replace hM := hide hM
          replace hR := hide hR
          replace hd := hide hd
          replace hFb := hide hFb
          go_upto_region 18 with (fail)
          obtain ⟨X, hX, hwX, hXs, qq⟩ := boxes1 wr #[.int .i64 s.kind, .int .i64 s.a, .int .i64 s.b, .int .i64 s.t, .int .i64 s.v.kind, .int .u64 s.v.bits, .int .i64 s.v.block, .int .i64 s.v.off, .int .i64 s.at_.kind, .int .u64 s.at_.bits, .int .i64 s.at_.block, .int .i64 s.at_.off, .int .u8 s.byte] 78
          rw [hX]
          clear hX d0 d1 d2 d3 d4 d5 d6 d7 d8 d9 d10 d11 d12
          have hself := Below.refl X.heap.size X
          have x0 := qq 0 _ rfl
          have x1 := qq 1 _ rfl
          have x2 := qq 2 _ rfl
          have x3 := qq 3 _ rfl
          have x4 := qq 4 _ rfl
          have x5 := qq 5 _ rfl
          have x6 := qq 6 _ rfl
          have x7 := qq 7 _ rfl
          have x8 := qq 8 _ rfl
          have x9 := qq 9 _ rfl
          have x10 := qq 10 _ rfl
          have x11 := qq 11 _ rfl
          have x12 := qq 12 _ rfl
          clear qq
          have hwN : wr.heap.size < X.heap.size := by omega
          replace hXs := hide hXs
          have hMX := hide (hM.out.later hwX)
          have hRX := hide (hR.out.later hwX)
          have hbX := hide (hbel.trans (hwX.mono hbel.size))
          have hMl := hide hM.out.lt
          have cO := hide (one_any g F2 B E u7 bs s X hMX.out hRX.out hd.out hok (by have := hbl.out; omega))
          clear hwX hM hR hT
          go_upto_region 19 with (go_at_call 59; refine cO.out.mono ?_; rintro e w5 ⟨c6, F', B', E', rfl, hM5, hR5, hd5, hF5, hU5⟩)
          have z10 : w5.cell? ⟨wr.heap.size, 10, none⟩ = some (.int .i64 s.at_.block) := (cell_of_heap (hU5.block _ hwN (fun hf => by have := hMl.out _ hf; omega))).trans (x10 X hself)
          have hb5 := hbX.out.trans (hU5.below hbX.out.size (fun j hj => hFb.out j hj))
          have hF5b : Hid (∀ j, F' j → w.heap.size ≤ j) := hide (fun j hj => by
            rcases hF5 j hj with h | h
            · exact hFb.out j h
            · exact Nat.le_trans hbX.out.size h)
          have hz5 : wr.heap.size < w5.heap.size := Nat.lt_of_lt_of_le hwN hU5.size
          have y10 : ∀ w', Below w5.heap.size w5 w' → w'.cell? ⟨wr.heap.size, 10, none⟩ = some (.int .i64 s.at_.block) := fun w' h' => (h'.cell (p := ⟨wr.heap.size, 10, none⟩) hz5).trans z10
          have cA := hide (alike_any g F' B' E' c6 (stepK bs s) w5 hM5 hR5 hbl2.out)
          have cB := hide (fun W (hW : Below w5.heap.size w5 W) => bytes_any g F' (stepK bs s) s.at_.block W (hM5.later hW))
          replace hM5 := hide hM5
          replace hR5 := hide hR5
          replace hd5 := hide hd5
          have hself5 := Below.refl w5.heap.size w5
          clear x0 x1 x2 x3 x4 x5 x6 x7 x8 x9 x10 x11 x12 cO hF5 hU5 z10 hself
          go_upto_region 23 with (first
            | (go_at_call 60; refine cA.out.mono ?_; rintro e w6 ⟨rfl, hb6⟩)
            | (go_at_call 50; refine (cB.out w6 hb6).mono ?_; rintro e w7 ⟨A7, c7, rfl, hO7, hb7⟩))
          have hb8 := hide (hb6.trans (hb7.mono hb6.size))
          have hs56 := hb6.size
          have hs67 := hb7.size
          obtain ⟨l, hl⟩ : ∃ l, Hid (l = bytesS (stepK bs s) s.at_.block) := ⟨_, hide rfl⟩
          have hl8 := (hM5.out.okb s.at_.block).2
          rw [← hl.out] at hO7 hl8 ⊢
          obtain ⟨m, hm⟩ : ∃ m, Hid (m = l.length) := ⟨_, hide rfl⟩
          rw [← hm.out] at hO7 hl8 ⊢
          have hself7 : Below w6.heap.size w7 w7 := Below.refl _ _
          replace hO7 := hide hO7
          replace hb5 := hide hb5
          clear hb6 hb7 y10 cA cB hself5
          go_wp2_with fail
          go_loopw [72] (fun u72 wr => ∃ j : Nat, j ≤ m ∧ u72 = .int .i64 j ∧ Hid (∃ l', l'.length = m ∧ OwnB wr w6.heap.size (.slice A7 m c7) l') ∧ Below w6.heap.size w7 wr) (fun u72 _ => m - (intOf u72).toNat)
          case atStart => exact ⟨0, Nat.zero_le _, rfl, hide ⟨l, hm.out.symm, hO7.out⟩, hself7⟩
          case round =>
            clear hself7
            obtain ⟨j, hj, rfl, hO8, hb9⟩ := hrel
            by_cases hlt2 : j < m
            · obtain ⟨l', hll, hO9⟩ := hO8.out
              obtain ⟨d, hd'⟩ := get_ex (l := l') (k := j) (by omega)
              obtain ⟨q2, rfl, hq0, hq1, r0, r1, r2, r3, r4⟩ := hO9.at_ hd'.out
              rw [← hll] at hO9
              have f : ∀ i, wr.frozen? ⟨q2, i, none⟩ = false := fun i => World.ownsRow.frozenAt hO9 i
              have f0 := f (j * 5)
              have f1 := f (j * 5 + 1)
              have f2 := f (j * 5 + 2)
              have f3 := f (j * 5 + 3)
              have f4 := f (j * 5 + 4)
              have hput := OwnB.put (k := j) hO9 (by omega) ⟨9, 0, 0, 0, 0⟩
              rw [hll] at hput
              have hbf := hide (below_five (q := q2) (k := j) (v0 := .int .i64 9) (v1 := .int .u8 0) (v2 := .int .i64 0) (v3 := .int .i64 0) (v4 := .int .i64 0) hb9 hq0)
              have hlen2 : Hid ((l'.set j ⟨9, 0, 0, 0, 0⟩).length = m) := hide (by rw [List.length_set, hll])
              replace hput := hide hput
              replace hll := hide hll
              clear f hO9
              go_wp2
              go_roundw
              case rel => exact ⟨j + 1, by omega, by go_num, hide ⟨_, hlen2.out, hput.out⟩, hbf.out⟩
              case measure => simp [intOf]; omega
            · obtain rfl : j = m := by omega
              have hM9 := fun w9 (h : Below w6.heap.size w7 w9) => (hM5.out.later hb8.out).kept (w' := w9) (fun k hk => h.block k (by have := hM5.out.lt k hk; omega)) h.size
              have hR9 := fun w9 (h : Below w6.heap.size w7 w9) => (hR5.out.later hb8.out).kept (w' := w9) (fun k _ hk => h.block k (by have := hR5.out.size; omega)) (Nat.le_refl _) (by have := hR5.out.size; have := h.size; omega)
              have hfin := hide (hb5.out.trans ((hb8.out.mono hb5.out.size).trans (hb9.mono (by have := hb5.out.size; omega))))
              have hB9 : Hid (Both _ w.heap.size g c6 (stepK bs s)) := hide ⟨hfin.out.size, F', B', E', hM9 _ hb9, hR9 _ hb9, hd5.out, hF5b.out⟩
              replace hb9 := hide hb9
              replace hM9 := hide hM9
              replace hR9 := hide hR9
              go_wp2
              go_roundw
              case rel => exact ⟨k + 1, by omega, by go_num, by rw [hsn.out]; exact hB9, hfin.out⟩
              case measure => simp [intOf]; omega
        · obtain rfl : k = nb := by omega
          have cA := hide (alike_any g F2 B E u7 bs wr hM hR (by have := hbl.out; omega))
          have hbel2 := hide hbel
          clear hM hR hT hd hFb hbel
          go_wp2_with fail
          refine cA.out.mono ?_
          rintro e w9 ⟨rfl, hb9⟩
          have hb10 := hide (hbel2.out.trans (hb9.mono hbel2.out.size))
          clear hb9
          go_wp2
          go_ret
          exact ⟨rfl, hb10.out⟩
end Go.Proofs.Ytgkgmeofilkopaa
