/- DomEdges. -/
import Derived.Test.YtkhlnopbgngjbaaEdA
import Derived.Test.YtkhlnopbgngjbaaDoG
import Derived.Test.YtkhlnopbgngjbaaDoH
namespace Go.Proofs.Ytkhlnopbgngjbaa
open Go.RowKit Go.Maps
set_option linter.unusedSimpArgs false
set_option linter.unusedVariables false

theorem cinfo_mapii : (Try.prog.info? 45).map (fun i => (i.zero, i.size, i.bytes)) = some (some (.map none), 1, 8) := by kernel_rfl
/-- the first k cells of block G hold the maps S, S + 1, .. -/
def MkM (w : World) (G S n k : Nat) : Prop := w.heap.size = S + k ∧ (∃ cs, w.ownsRow G 45 1 (.slice (some ⟨G, 0, none⟩) n n) n cs ∧ ∀ j : Nat, j < k → cs[j]? = some (Value.map (some (S + j)))) ∧ MapsK w S (List.replicate k [])
theorem MkM.next {w : World} {G S n k : Nat} (h : MkM w G S n k) (hk : k < n) (hG : G < S) : MkM ((w.alloc (.map #[] 0)).setCell ⟨G, k, none⟩ (.map (some w.heap.size))) G S n (k + 1) := by
  obtain ⟨h1, ⟨cs, h2, h3⟩, h4⟩ := h
  have hGw := (row_lt h2 (k := G) rfl).2.1
  have hrow := h2.alloc (.map #[] 0)
  have hcl : cs.length = n := by have := h2.1; omega
  refine ⟨by simp; omega, ⟨_, (World.ownsRow.stored hrow k (.map (some w.heap.size))).1, fun j hj => ?_⟩, fun j l hl => ?_⟩
  · by_cases e : k = j
    · subst e; rw [List.getElem?_set_self (by omega), h1]
    · rw [List.getElem?_set_ne e]; exact h3 j (by omega)
  · rw [List.getElem?_replicate] at hl
    split at hl
    · rename_i hj
      cases hl
      have hb : ∀ M : Nat, M ≠ G → ((w.alloc (.map #[] 0)).setCell ⟨G, k, none⟩ (.map (some w.heap.size))).heap[M]? = (w.alloc (.map #[] 0)).heap[M]? := fun M hM => Below.heap_setCell _ _ _ _ hM
      by_cases e : j = k
      · subst e
        rw [← h1]
        exact (MKeys.made w).of_heap (hb _ (by omega))
      · have h5 := h4 j [] (by rw [List.getElem?_replicate, if_pos (by omega)])
        exact h5.of_heap ((hb _ (by omega)).trans (Below.heap_alloc w _ _ h5.lt))
    · cases hl
set_option maxRecDepth 100000 in
set_option maxHeartbeats 12800000 in
theorem law_dom_edges (f : Fun) (c1 c2 : Value) (w : World) (hf : RFun.rep w w.heap.size [.string f.name, c1, .int .i64 f.ret, c2] f) (hs : Small f) (hsz : funSz f ≤ 2000000) :
    Calls Try.prog 4 #[f.v c1 c2] w (LawPost w) := by
  obtain ⟨hp, hb⟩ := fun_open (RFun.later hf (Below.refl _ _) (Nat.le_refl _))
  obtain ⟨A1, k1, h1, -, -⟩ := Rp.slice1_open hp
  obtain ⟨A2, k2, h2, hm2, -⟩ := Rp.slice1_open hb
  cases h1; cases h2
  clear hp hb
  obtain ⟨n, hn⟩ : ∃ n, Hid (n = f.blocks.length) := ⟨_, hide rfl⟩
  have hnle : n ≤ 2000000 := by rw [hn.out]; exact hs.blocks
  obtain ⟨O, hO⟩ : ∃ O, Hid (O = orderF f.blocks) := ⟨_, hide rfl⟩
  obtain ⟨sc, hsc⟩ : ∃ sc, Hid (sc = succsF f.blocks) := ⟨_, hide rfl⟩
  obtain ⟨R, hR⟩ : ∃ R, Hid (R = reachF f.blocks) := ⟨_, hide rfl⟩
  obtain ⟨P, hP⟩ : ∃ P, Hid (P = predsL sc n) := ⟨_, hide rfl⟩
  have hPl : P.length = n := by rw [hP.out, predsL_len]
  have hRl : R.length = n := by rw [hR.out, hn.out, reach_len]
  have hsok : Hid (∀ b, SuccOk n (sc b)) := hide (fun b => by rw [hsc.out, hn.out]; exact succsF_ok _ _)
  have hok : Hid (OrderOk n sc O) := hide (by rw [hO.out, hn.out, hsc.out]; exact order_ok _)
  have hol : O.length ≤ n := by rw [hO.out, hn.out]; exact order_len _
  have hRat : Hid (∀ k : Nat, k < n → R[k]? = some (decide ((k : Int) ∈ O))) := hide (fun k hk => by rw [hR.out, hO.out]; exact reach_at _ _ (by rw [← hn.out]; exact hk))
  rw [← hn.out]
  rw [← hn.out] at hf hm2
  obtain ⟨W, hW, hwW, hWs, hx⟩ := boxes1 w #[.string f.name, .slice A1 f.params.length k1, .int .i64 f.ret, .slice A2 n k2] 25
  have q0 : ∀ w', Below W.heap.size W w' → w'.cell? ⟨w.heap.size, 0, none⟩ = some (.string f.name) := hx 0 _ rfl
  have q1 : ∀ w', Below W.heap.size W w' → w'.cell? ⟨w.heap.size, 1, none⟩ = some (.slice A1 f.params.length k1) := hx 1 _ rfl
  have q2 : ∀ w', Below W.heap.size W w' → w'.cell? ⟨w.heap.size, 2, none⟩ = some (.int .i64 f.ret) := hx 2 _ rfl
  have q3 : ∀ w', Below W.heap.size W w' → w'.cell? ⟨w.heap.size, 3, none⟩ = some (.slice A2 n k2) := hx 3 _ rfl
  clear hx
  have hws : w.heap.size ≤ W.heap.size := by omega
  replace hWs := hide hWs
  have hself := Below.refl W.heap.size W
  have hF : Hid (∀ w', Below W.heap.size W w' → RFun.rep w' w'.heap.size [.string f.name, .slice A1 f.params.length k1, .int .i64 f.ret, .slice A2 n k2] f) := hide (fun w' h => RFun.later hf (hwW.trans (h.mono hws)) (hwW.trans (h.mono hws)).size)
  have cI : Hid (∀ w', Below W.heap.size W w' → Calls Try.prog 24 #[f.v (.slice A1 f.params.length k1) (.slice A2 n k2)] w' (IdomPost sc O n w')) := hide (fun w' h => by
    have := idom_any f (.slice A1 f.params.length k1) (.slice A2 n k2) w' w'.heap.size (Nat.le_refl _) (hF.out w' h) hs
    rwa [← hn.out, ← hO.out, ← hsc.out] at this)
  have cF : Hid (∀ w', Below W.heap.size W w' → Calls Try.prog 25 #[f.v (.slice A1 f.params.length k1) (.slice A2 n k2)] w' (FrontPost sc O n w')) := hide (fun w' h => by
    have := front_any f (.slice A1 f.params.length k1) (.slice A2 n k2) w' w'.heap.size (Nat.le_refl _) (hF.out w' h) hs
    rwa [← hn.out, ← hO.out, ← hsc.out] at this)
  have cP : Hid (∀ w', Below W.heap.size W w' → Calls Try.prog 26 #[f.v (.slice A1 f.params.length k1) (.slice A2 n k2)] w' (PredPost n P w')) := hide (fun w' h => by
    have := preds_any f (.slice A1 f.params.length k1) (.slice A2 n k2) w' w'.heap.size (Nat.le_refl _) (hF.out w' h) hs
    rwa [← hn.out, ← hsc.out, ← hP.out] at this)
  have cR : Hid (∀ w', Below W.heap.size W w' → Calls Try.prog 27 #[f.v (.slice A1 f.params.length k1) (.slice A2 n k2)] w' (ReachPost n R w')) := hide (fun w' h => by
    have := reach_any f (.slice A1 f.params.length k1) (.slice A2 n k2) w' w'.heap.size (Nat.le_refl _) (hF.out w' h) hs
    rwa [← hn.out, ← hR.out] at this)
  obtain ⟨lb, hlb⟩ : ∃ lb, Hid (lb = long7F f) := ⟨_, hide rfl⟩
  have cL : Hid (∀ w', Below W.heap.size W w' → Calls Try.prog 23 #[f.v (.slice A1 f.params.length k1) (.slice A2 n k2)] w' (RetB lb w')) := hide (fun w' h => by
    have := long07_any f (.slice A1 f.params.length k1) (.slice A2 n k2) w' w'.heap.size (Nat.le_refl _) (hF.out w' h) hsz
    rwa [← hlb.out] at this)
  replace hs := hide hs
  replace hf := hide hf
  replace hwW := hide hwW
  obtain ⟨m0, hm0, hm1, hm2', hm3⟩ := cinfo_parts cinfo_mapii
  replace hm0 := hide hm0
  replace hm1 := hide hm1
  replace hm2' := hide hm2'
  replace hm3 := hide hm3
  replace hW := hide hW
  have hmm := @run_makeMap Try.prog
  go_enter Try.func4, Try.ntmps4
  go_upto_region 1 with (fail)
  rw [hW.out]
  clear hW
  go_wp2_with (fail)
  refine (lives07_any _).mono ?_
  rintro e w1 ⟨rfl, hb1⟩
  go_wp2_with (fail)
  refine (cL.out _ hb1).mono ?_
  rintro e w2 ⟨rfl, hb2⟩
  have hbel2 := hb1.trans (hb2.mono hb1.size)
  clear hb1 hb2 cL
  cases lb with
  | true =>
    go_wp2
    go_ret
    exact ⟨rfl, hwW.out.trans (hbel2.mono hws)⟩
  | false =>
    have hs2 := hbel2.size
    go_upto_region 6 with (fail)
    go_region_held3 (fun w' => Below W.heap.size W w') (first | (with_reducible assumption) | exact hbel2.drew)
      (first
        | (go_at_call 24; refine (cI.out _ hbel2.drew).mono ?_; rintro e X1 ⟨gl, l, rfl, hI, hN, hb⟩; have hk1 : Below W.heap.size W X1 := hbel2.drew.trans (hb.mono hs2); have hI' := hide hI; have hN1 := hide hN; clear hI hN hb)
        | (go_at_call 25; refine (cF.out _ hk1).mono ?_; rintro e X2 ⟨gf, csf, rfl, hL, hb⟩; have hk2 : Below W.heap.size W X2 := hk1.trans (hb.mono hk1.size); have hF2 := hide hL; have hN2 := hide (hN1.out.below hb); clear hL hb)
        | (go_at_call 26; refine (cP.out _ hk2).mono ?_; rintro e X3 ⟨gp, csp, rfl, hL, hb⟩; have hk3 : Below W.heap.size W X3 := hk2.trans (hb.mono hk2.size); have hP3 := hide hL; have hF3 := hide (hF2.out.below hb); have hN3 := hide (hN2.out.below hb); clear hL hb)
        | (go_at_call 27; refine (cR.out _ hk3).mono ?_; rintro e X ⟨gr, rfl, hL, hb⟩; have hk4 : Below W.heap.size W X := hk3.trans (hb.mono hk3.size); have hR4 := hide hL; have hP4 := hide (hP3.out.below hb); have hF4 := hide (hF3.out.below hb); have hN4 := hide (hN3.out.below hb); clear hL hb))
    have hll : l.length = n := hN4.out.len
    have hin : Hid (∀ x, x ∈ l → -1 ≤ x ∧ x < n) := hide (hI'.out.ok hok.out)
    have rup := hide hN4.out.reads
    have rre := hide (bool_reads hR4.out).2
    have rpr := hide (rows_reads hP4.out hPl)
    have rfr := hide (rows_reads hF4.out qL_len)
    have hPm : Hid (∀ (k : Nat) p, P[k]? = some p → p.length ≤ 2000000 ∧ ∀ x, x ∈ p ↔ (0 ≤ x ∧ x < n ∧ (k : Int) ∈ sc x)) := hide (fun k p hk => by
      rw [hP.out] at hk
      have hm := fun x => predsL_mem hk x
      refine ⟨?_, hm⟩
      have := range_len n p ((predsL_sorted hk).imp fun h => by omega) (fun x hx => ⟨((hm x).1 hx).1, ((hm x).1 hx).2.1⟩)
      omega)
    have hwX : Hid (Below w.heap.size w X) := hide (hwW.out.trans (hk4.mono hws))
    have hwXs : Hid (w.heap.size ≤ X.heap.size) := hide hwX.out.size
    clear hN1 hN2 hN3 hF2 hF3 hP3 hk1 hk2 hk3 hk4 hN4 hR4 hP4 hF4 q0 q1 q2 q3 hself hbel2 hs2 cI cF cP cR
    go_wp2_with (at_make; refine wpList_make_full _ rfl (.tmp 55) (.tmp 55) _ rfl X.heap.size 45 m0 _ 1 Try.underlying44 hm0.out hm1.out hm2'.out .i64 .i64 n n n rfl rfl rfl rfl ?c1 ?c2 (Nat.le_refl _) ?_)
    case c1 => rw [hm3.out]; omega
    case c2 => unfold maxLen; omega
    intro Y hown1 hg1
    have hXY := below_grown0 hg1
    have hGY := (row_lt hown1 (k := X.heap.size) rfl).2.1
    have hM0 : Hid (MkM Y X.heap.size Y.heap.size n 0) := hide ⟨rfl, ⟨_, hown1, fun j hj => by omega⟩, fun k l hl => by simp at hl⟩
    clear hown1 hg1
    go_wp2
    go_loopw [59] (fun s wr => ∃ k : Nat, s = .int .i64 k ∧ k ≤ n ∧ Hid (MkM wr X.heap.size Y.heap.size n k) ∧ Below X.heap.size X wr) (fun s _ => n - (intOf s).toNat)
    case atStart => exact ⟨0, rfl, Nat.zero_le _, hM0, hXY⟩
    case round =>
      clear hM0 hXY
      rename World => Z
      obtain ⟨k, rfl, hk, hMk, hbel⟩ := hrel
      by_cases hlt : k < n
      · have hki : (k : Int) < (n : Int) := by omega
        obtain ⟨e1, ⟨cs, hcs, e2⟩, e3⟩ := hMk.out
        have hcl : cs.length = n := by have := hcs.1; omega
        obtain ⟨v, hv⟩ := get_ex (l := cs) (k := k) (by omega)
        have hca := hcs.alloc (.map #[] 0)
        have rc : (Z.alloc (.map #[] 0)).cell? ⟨X.heap.size, k, none⟩ = some v := by rw [World.ownsRow.cellAt hca k (by omega)]; exact hv.out
        have fc : (Z.alloc (.map #[] 0)).frozen? ⟨X.heap.size, k, none⟩ = false := World.ownsRow.frozenAt hca k
        have hnx := hide (hMk.out.next hlt hGY)
        have hbn := hide ((hbel.alloc hbel.size (.map #[] 0)).setCell (p := ⟨X.heap.size, k, none⟩) (Nat.le_refl _) (.map (some Z.heap.size)))
        replace e1 := hide e1
        replace hca := hide hca
        replace hcs := hide hcs
        replace e2 := hide e2
        replace e3 := hide e3
        go_wp2
        go_roundw
        case rel => exact ⟨k + 1, by go_num, hlt, hnx, hbn.out⟩
        case measure => simp [intOf]; omega
      · obtain rfl : k = n := by omega
        obtain ⟨hZs, ⟨cs, hcs, hcj⟩, hmaps⟩ := hMk.out
        obtain ⟨S, hS⟩ : ∃ S, Hid (S = Y.heap.size) := ⟨_, hide rfl⟩
        rw [← hS.out] at hZs hcj hmaps hGY
        have hZX : Hid (∀ w', Below S Z w' → Below X.heap.size X w') := hide (fun w' h => hbel.trans (h.mono (by omega)))
        have rG : Hid (∀ j : Nat, j < k → ∀ w', Below S Z w' → w'.cell? ⟨X.heap.size, j, none⟩ = some (.map (some (S + j)))) := hide (fun j hj w' h => by
          have h1 := World.ownsRow.cellAt hcs j (by have := hcs.1; omega)
          rw [hcj j hj] at h1
          exact (h.cell (p := ⟨X.heap.size, j, none⟩) hGY).trans h1)
        have rup' : Hid (∀ (k : Nat) x, l[k]? = some x → ∀ w', Below S Z w' → w'.cell? ⟨gl, k, none⟩ = some (.int .i64 x)) := hide (fun k x h w' hb => rup.out k x h w' (hZX.out w' hb))
        have rre' : Hid (∀ (k : Nat) x, R[k]? = some x → ∀ w', Below S Z w' → w'.cell? ⟨gr, k, none⟩ = some (.bool x)) := hide (fun k x h w' hb => rre.out k x h w' (hZX.out w' hb))
        have hmaps0 : Hid (MapsK Z S (qL (frB sc O) k 0)) := hide (by rw [qL_zero]; exact hmaps)
        have hwZ : Hid (∀ w', Below S Z w' → Below w.heap.size w w') := hide (fun w' h => hwX.out.trans ((hZX.out w' h).mono hwXs.out))
        have hZself := Below.refl S Z
        replace hZs := hide hZs
        replace hcs := hide hcs
        replace hcj := hide hcj
        clear hmaps hMk hbel rup rre hwX
        go_wp2
        go_loopw [10] (fun s wr => ∃ b : Nat, s = .int .i64 b ∧ b ≤ k ∧ Hid (MapsK wr S (qL (frB sc O) k b)) ∧ Below S Z wr) (fun s _ => k - (intOf s).toNat)
        case atStart => exact ⟨0, rfl, Nat.zero_le _, hmaps0, hZself⟩
        case round =>
          clear hmaps0 hZself
          rename World => V
          obtain ⟨b, rfl, hb, hrow, hon⟩ := hrel
          by_cases hlt : b < k
          · have hbi : (b : Int) < (k : Int) := by omega
            obtain ⟨p, hp⟩ := get_ex (l := P) (k := b) (by omega)
            obtain ⟨Ap, Cp, rp, rpx⟩ := rpr.out b p hp.out
            obtain ⟨hpl, hpm⟩ := hPm.out b p hp.out
            replace hpm := hide hpm
            replace rpx := hide rpx
            have rp0 := rp V (hZX.out V hon)
            clear rp
            obtain ⟨m, hm⟩ : ∃ m, Hid (m = p.length) := ⟨_, hide rfl⟩
            rw [← hm.out] at rp0 hpl
            obtain ⟨u, hu⟩ := get_ex (l := l) (k := b) (by omega)
            have hrow0 : Hid (MapsK V S (qM (frB sc O) (fun _ => false) k b)) := hide (by rw [qM_none]; exact hrow.out)
            have hd0 : Hid (DoneS sc O k b 0 p (fun _ => false)) := hide (fun t ht => ⟨fun h => (by simp at h), fun ⟨i', x, h1, _⟩ => by omega⟩)
            go_wp2
            go_loopw [77] (fun s wr => ∃ (i : Nat) (M : Nat → Bool), s = .int .i64 i ∧ i ≤ m ∧ Hid (MapsK wr S (qM (frB sc O) M k b)) ∧ Hid (DoneS sc O k b i p M) ∧ Below S Z wr) (fun s _ => m - (intOf s).toNat)
            case atStart => exact ⟨0, _, rfl, Nat.zero_le _, hrow0, hd0, hon⟩
            case round =>
              clear hrow0 hd0 hon hrow rp0
              rename World => V
              obtain ⟨i, M, rfl, hi, hrow, hdn, hon⟩ := hrel
              by_cases hlt2 : i < m
              · have hii : (i : Int) < (m : Int) := by omega
                obtain ⟨x0, hx0'⟩ := get_ex (l := p) (k := i) (by rw [← hm.out]; exact hlt2)
                obtain ⟨g5, rfl, rx⟩ := rpx.out (by rw [← hm.out]; omega)
                have rx0 := rx i _ hx0'.out V (hZX.out V hon)
                clear rx
                obtain ⟨hm1', hm2'', hm3'⟩ := (hpm.out x0).1 (List.mem_of_getElem? hx0'.out)
                obtain ⟨y0, rfl⟩ := Int.eq_ofNat_of_zero_le hm1'
                have hy0 : y0 < k := by omega
                have hy1 : ¬ (y0 : Int) < 0 := by omega
                have hy2 : ¬ (y0 : Int) ≥ (k : Int) := by omega
                have rre0 := rre'.out y0 _ (hRat.out y0 hy0) V hon
                replace hm3' := hide hm3'
                by_cases hxO : (y0 : Int) ∈ O
                · rw [decide_eq_true hxO] at rre0
                  have hn0 : Hid (0 < k) := hide (by omega)
                  have hbO : Hid ((b : Int) ∈ O) := hide (by
                    have hp := (hok.out.mem y0).1 hxO
                    exact (hok.out.mem b).2 ⟨hp.1, .step hp.2 hm3'.out⟩)
                  have hst0 : Hid (WalkS sc O l b y0 y0 ∧ ∀ t : Nat, t < k → (M t = true ↔ M t = true ∨ VisS sc O y0 y0 t)) := hide ⟨walk_start hI'.out hok.out hbO.out hxO hm3'.out, fun t _ => ⟨fun h => .inl h, fun h => h.resolve_right (vis_start hok.out hxO)⟩⟩
                  have hmu0 : Hid (0 + muW O y0 ≤ k) := hide (by
                    have := List.idxOf_lt_length_of_mem hxO
                    unfold muW
                    rw [if_neg (by omega)]
                    omega)
                  have hub : Hid (∃ u, l[b]? = some u) := hide ⟨u, hu.out⟩
                  replace hxO := hide hxO
                  go_wp2
                  go_loopw [13, 14] (fun s s2 wr => ∃ (x : Int) (i2 : Nat) (M' : Nat → Bool), s = .int .i64 x ∧ s2 = .int .i64 i2 ∧ Hid (i2 + muW O x ≤ k) ∧ Hid (WalkS sc O l b y0 x ∧ ∀ t : Nat, t < k → (M' t = true ↔ M t = true ∨ VisS sc O y0 x t)) ∧ Hid (MapsK wr S (qM (frB sc O) M' k b)) ∧ Below S Z wr) (fun s _ _ => muW O (intOf s))
                  case atStart => exact ⟨y0, 0, M, rfl, rfl, hmu0, hst0, hrow, hon⟩
                  case round =>
                    clear hst0 hrow hon rx0 hmu0 rre0
                    rename World => V
                    obtain ⟨x, i2, M', rfl, rfl, hmu, hwk, hrow, hon⟩ := hrel
                    have hi2 : (i2 : Int) ≤ (k : Int) := by have := hmu.out; omega
                    by_cases hxn : x = -1
                    · subst hxn
                      have hneg : ¬ ((-1 : Int) ≥ 0) := by omega
                      have hdn2 : Hid (DoneS sc O k b (i + 1) p M') := hide (done_next hdn.out hx0'.out fun t ht => by rw [hwk.out.2 t ht, walk_end hI'.out hok.out hn0.out hbO.out hwk.out.1 (.inl rfl)])
                      go_wp2
                      go_roundw
                      case rel => exact ⟨i + 1, M', by go_num, hlt2, hrow, hdn2, hon⟩
                      case measure => simp [intOf]; omega
                    · have hxb : 0 ≤ x ∧ x < k := by
                        rcases walk_bound hok.out hwk.out.1 with h | h
                        · exact absurd h hxn
                        · exact ⟨h.1, h.2.1⟩
                      obtain ⟨xn, rfl⟩ := Int.eq_ofNat_of_zero_le hxb.1
                      have hxnn : xn < k := by omega
                      have hxi : (xn : Int) < (k : Int) := hxb.2
                      have hge : (xn : Int) ≥ 0 := by omega
                      replace hxb := hide hxb
                      replace hxn := hide hxn
                      have rup1 := rup'.out b u hu.out V hon
                      by_cases hstop : (xn : Int) = u
                      · have h1b : ((xn : Int) != u) = false := by simp [hstop]
                        have hdn2 : Hid (DoneS sc O k b (i + 1) p M') := hide (done_next hdn.out hx0'.out fun t ht => by
                          rw [hwk.out.2 t ht, walk_end hI'.out hok.out hn0.out hbO.out hwk.out.1 (.inr ⟨fun h0 => by
                            subst h0
                            have hz := hI'.out.none_ 0 (by omega) (.inr rfl)
                            rw [hu.out] at hz
                            cases hz
                            omega, by rw [hu.out, hstop]⟩)])
                        replace hstop := hide hstop
                        go_wp2
                        go_roundw
                        case rel => exact ⟨i + 1, M', by go_num, hlt2, hrow, hdn2, hon⟩
                        case measure => simp [intOf]; omega
                      · have h1b : ((xn : Int) != u) = true := by simp [hstop]
                        have hgo : Hid (b = 0 ∨ l[b]? ≠ some (xn : Int)) := hide (.inr fun h => hstop (by rw [hu.out] at h; exact (Option.some.inj h).symm))
                        obtain ⟨v, hv⟩ := get_ex (l := l) (k := xn) (by omega)
                        have hws2 := hide (walk_step hI'.out hok.out hn0.out hwk.out.1 hgo.out hub.out hv.out)
                        have hmu2 : Hid (muW O v < muW O xn) := hide (by
                          have hxO2 : (xn : Int) ∈ O := by
                            rcases walk_bound hok.out hwk.out.1 with h | h
                            · omega
                            · exact h.2.2
                          unfold muW
                          rw [if_neg (show ¬ (xn : Int) = -1 by omega)]
                          split
                          · omega
                          · rename_i hv1
                            by_cases h0 : xn = 0
                            · subst h0
                              have := hI'.out.none_ 0 hxnn (.inr rfl)
                              rw [hv.out] at this
                              exact absurd (Option.some.inj this) hv1
                            · have := (up_parts hI'.out hok.out hn0.out hxO2 h0 hv.out).2.1
                              omega)
                        have hmu3 : Hid (i2 + 1 + muW O v ≤ k) := hide (by have := hmu.out; have := hmu2.out; omega)
                        have hbI : Hid ((Lit.int .i64 (b : Int)).wf = true) := hide (i64_mk (by omega) (by omega))
                        obtain ⟨L7, hL7⟩ : ∃ L7, Hid (L7 = qAt (frB sc O) xn b ++ if M' xn = true then [(b : Int)] else []) := ⟨_, hide rfl⟩
                        have hL7a : Hid ((qM (frB sc O) M' k b)[xn]? = some L7) := hide (by rw [qM_at hxnn, hL7.out])
                        have hL7l : L7.length ≤ 4000000 := by
                          rw [hL7.out, List.length_append]
                          have := qAt_len (q := frB sc O) (t := xn) (b := b)
                          split <;> simp <;> omega
                        have hhas : Hid (decide ((b : Int) ∈ L7) = M' xn) := hide (by
                          rw [← qM_has (q := frB sc O) (M := M') (n := k) (b := b) hxnn, ← hL7.out, List.contains_eq_mem])
                        obtain ⟨V1, hrun, hmk, hon1⟩ := MKeys.store (hrow.out xn L7 hL7a.out) (by unfold maxLen; omega) hbI.out
                        have hrow1 : Hid (MapsK V1 S (qM (frB sc O) (fun j => if j = xn then true else M' j) k b)) := hide (by
                          have h9 := hrow.out.put hL7a.out hon1 hmk
                          cases hMx : M' xn with
                          | true =>
                            rw [hMx] at hhas
                            rw [if_pos (of_decide_eq_true hhas.out), set_same hL7a.out] at h9
                            rw [qM_congr (M' := M') fun t => ?_]
                            · exact h9
                            · by_cases e : t = xn
                              · subst e; rw [if_pos rfl, hMx]
                              · rw [if_neg e]
                          | false =>
                            rw [hMx] at hhas
                            rw [if_neg (of_decide_eq_false hhas.out), hL7.out, if_neg (by simp [hMx]), List.append_nil, qM_mark hxnn hMx] at h9
                            exact h9)
                        have hst2 : Hid (WalkS sc O l b y0 v ∧ ∀ t : Nat, t < k → ((if t = xn then true else M' t) = true ↔ M t = true ∨ VisS sc O y0 v t)) := hide ⟨hws2.out.1, fun t ht => by
                          rw [hws2.out.2 t]
                          by_cases e : t = xn
                          · subst e; simp
                          · rw [if_neg e, hwk.out.2 t ht]
                            constructor
                            · rintro (h | h)
                              · exact .inl h
                              · exact .inr (.inl h)
                            · rintro (h | h | h)
                              · exact .inl h
                              · exact .inr h
                              · exact absurd (by omega) e⟩
                        have honV : Below S Z V1 := hon.trans (hon1.to_below (B' := S) (fun j hj => by have e : j = S + xn := hj; omega) (by have := (hrow.out xn L7 hL7a.out).lt; omega))
                        have rG1 := rG.out xn hxnn V hon
                        have rup2 := rup'.out xn v hv.out V1 honV
                        have hi3 : Hid (i2 < k + 1) := hide (by have := hmu.out; omega)
                        replace hstop := hide hstop
                        replace hmk := hide hmk
                        replace hon1 := hide hon1
                        go_wp2
                        go_roundw
                        case rel => exact ⟨v, i2 + 1, _, rfl, by go_num, hmu3, hst2, hrow1, honV⟩
                        case measure => simp [intOf]; exact hmu2.out
                · rw [decide_eq_false hxO] at rre0
                  have hdn2 : Hid (DoneS sc O k b (i + 1) p M) := hide (done_next hdn.out hx0'.out fun t ht => ⟨fun h => .inl h, fun h => h.resolve_right fun h9 => hxO h9.1.2.1⟩)
                  replace hxO := hide hxO
                  go_wp2
                  go_roundw
                  case rel => exact ⟨i + 1, M, by go_num, hlt2, hrow, hdn2, hon⟩
                  case measure => simp [intOf]; omega
              · obtain rfl : i = m := by omega
                have hrow2 : Hid (MapsK V S (qL (frB sc O) k (b + 1))) := hide (by
                  rw [← qM_end (M := M) fun t ht => ?_]
                  · exact hrow.out
                  · rw [Bool.eq_iff_iff, hdn.out t ht, frB_iff]
                    constructor
                    · rintro ⟨i', x, h1, h2, h3⟩
                      exact ⟨x, ((hpm.out x).1 (List.mem_of_getElem? h2)).2.2, h3⟩
                    · rintro ⟨x, h1, h2⟩
                      have hxb := hok.out.bound x h2.1.2.1
                      obtain ⟨i', hi'⟩ := List.mem_iff_getElem?.1 ((hpm.out x).2 ⟨hxb.1, hxb.2, h1⟩)
                      exact ⟨i', x, by rw [hm.out]; exact (List.getElem?_eq_some_iff.1 hi').1, hi', h2⟩)
                go_wp2
                go_roundw
                case rel => exact ⟨b + 1, by go_num, hlt, hrow2, hon⟩
                case measure => simp [intOf]; omega
          · obtain rfl : b = k := by omega
            have hselfV := Below.refl V.heap.size V
            have hVs : Hid (S ≤ V.heap.size) := hide (by have := hon.size; have := hZs.out; omega)
            have hZV : Hid (∀ w', Below V.heap.size V w' → Below S Z w') := hide (fun w' h => hon.trans (h.mono hVs.out))
            replace hon := hide hon
            go_wp2
            go_loopw [130] (fun s wr => ∃ j : Nat, s = .int .i64 j ∧ j ≤ b ∧ Below V.heap.size V wr) (fun s _ => b - (intOf s).toNat)
            case atStart => exact ⟨0, rfl, Nat.zero_le _, hselfV⟩
            case round =>
              clear hselfV
              rename World => U
              obtain ⟨j, rfl, hj, hbel⟩ := hrel
              by_cases hlt : j < b
              · have hji : (j : Int) < (b : Int) := by omega
                obtain ⟨L, hL⟩ : ∃ L, Hid (L = qAt (frB sc O) j b) := ⟨_, hide rfl⟩
                have hLa : Hid ((qL (frB sc O) b b)[j]? = some L) := hide (by rw [qL_at hlt, hL.out])
                obtain ⟨Af, Cf, rf, rfx⟩ := rfr.out j L hLa.out
                have hLm : Hid (∀ x, x ∈ L → 0 ≤ x ∧ x < b) := hide (fun x hx => by
                  rw [hL.out] at hx
                  obtain ⟨y, rfl, hy, -⟩ := qAt_mem.1 hx
                  omega)
                have hLl : L.length ≤ 2000000 := by have := qAt_len (q := frB sc O) (t := j) (b := b); rw [hL.out]; omega
                have hmk := hide (hrow.out.below hbel j L hLa.out)
                have rf0 := rf U (hZX.out U (hZV.out U hbel))
                have rG0 := rG.out j hlt U (hZV.out U hbel)
                obtain ⟨es, clock, hes, hesz⟩ := hmk.out.isMap
                have hlen := fun (ty : TypeId) (nq : Nat) => (hmk.out.of_heap (w' := U.drewN nq) rfl).len ty
                obtain ⟨m, hm⟩ : ∃ m, Hid (m = L.length) := ⟨_, hide rfl⟩
                rw [← hm.out] at rf rf0 hlen hLl hesz
                replace rfx := hide rfx
                replace hes := hide hes
                replace hesz := hide hesz
                go_upto_region 32 with (fail)
                go_quiet (fail)
                have hbel2 := bdn hbel nq
                have hmk2 : Hid (MKeys (U.drewN nq) (S + j) L) := hide (hmk.out.of_heap rfl)
                clear hlen rf0 rG0 hes hesz hmk hbel
                generalize U.drewN nq = U2 at hbel2 hmk2 ⊢
                have rf0 := rf U2 (hZX.out U2 (hZV.out U2 hbel2))
                have rG0 := rG.out j hlt U2 (hZV.out U2 hbel2)
                clear rf
                go_wp2
                go_loopw [149] (fun s wr => ∃ i : Nat, s = .int .i64 i ∧ i ≤ m ∧ wr = U2) (fun s _ => m - (intOf s).toNat)
                case atStart => exact ⟨0, rfl, Nat.zero_le _, rfl⟩
                case round =>
                  obtain ⟨i, rfl, hi, rfl⟩ := hrel
                  by_cases hlti : i < m
                  · have hii : (i : Int) < (m : Int) := by omega
                    obtain ⟨t, ht⟩ := get_ex (l := L) (k := i) (by rw [← hm.out]; exact hlti)
                    obtain ⟨g7, rfl, rx⟩ := rfx.out (by rw [← hm.out]; omega)
                    have htm := List.mem_of_getElem? ht.out
                    have rx0 := rx i _ ht.out _ (hZX.out _ (hZV.out _ hbel2))
                    obtain ⟨ht1, ht2⟩ := hLm.out t htm
                    have hlook := hmk2.out.look (r := t) (i64_mk (by omega) (by omega))
                    rw [decide_eq_true htm, if_pos rfl] at hlook
                    replace htm := hide htm
                    clear rx
                    go_wp2
                    go_roundw
                    case rel => exact ⟨i + 1, by go_num, hlti, by trivial⟩
                    case measure => simp [intOf]; omega
                  · obtain rfl : i = m := by omega
                    go_wp2
                    go_roundw
                    case rel => exact ⟨j + 1, by go_num, hlt, hbel2⟩
                    case measure => simp [intOf]; omega
              · obtain rfl : j = b := by omega
                have hfin := hide (hwZ.out U (hZV.out U hbel))
                go_wp2
                go_ret
                exact ⟨rfl, hfin.out⟩
end Go.Proofs.Ytkhlnopbgngjbaa
