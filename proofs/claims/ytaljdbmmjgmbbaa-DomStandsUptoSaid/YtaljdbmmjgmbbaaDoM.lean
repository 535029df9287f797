/- The law DomStands, walked. No condition but sizes. -/
import Derived.Test.YtaljdbmmjgmbbaaDoG
import Derived.Test.YtaljdbmmjgmbbaaDoJ
import Derived.Test.YtaljdbmmjgmbbaaStq
namespace Go.Proofs.Ytaljdbmmjgmbbaa
open Go.RowKit
set_option linter.unusedSimpArgs false
set_option linter.unusedVariables false

set_option maxRecDepth 100000 in
set_option maxHeartbeats 12800000 in
theorem law_dom_stands (f : Fun) (c1 c2 : Value) (w : World) (hf : RFun.rep w w.heap.size [.string f.name, c1, .int .i64 f.ret, c2] f) (hs : Small f) (hsz : funSz f ≤ 2000000) :
    Calls Try.prog 10 #[f.v c1 c2] w (LawPost w) := by
  obtain ⟨hp, hb⟩ := fun_open (RFun.later hf (Below.refl _ _) (Nat.le_refl _))
  obtain ⟨A1, k1, h1, -, -⟩ := Rp.slice1_open hp
  obtain ⟨A2, k2, h2, hm2, -⟩ := Rp.slice1_open hb
  cases h1; cases h2
  clear hp hb
  obtain ⟨n, hn⟩ : ∃ n, Hid (n = f.blocks.length) := ⟨_, hide rfl⟩
  have hnle : n ≤ 2000000 := by rw [hn.out]; exact hs.blocks
  obtain ⟨O, hO⟩ : ∃ O, Hid (O = orderF f.blocks) := ⟨_, hide rfl⟩
  obtain ⟨sc, hsc⟩ : ∃ sc, Hid (sc = succsF f.blocks) := ⟨_, hide rfl⟩
  obtain ⟨R, hR⟩ : ∃ R, Hid (R = reachF f.blocks) := ⟨_, hide rfl⟩
  obtain ⟨P, hP⟩ : ∃ P, Hid (P = predsL sc n) := ⟨_, hide rfl⟩
  have hPl : P.length = n := by rw [hP.out, predsL_len]
  have hRl : R.length = n := by rw [hR.out, hn.out, reach_len]
  have hsok : Hid (∀ b, SuccOk n (sc b)) := hide (fun b => by rw [hsc.out, hn.out]; exact succsF_ok _ _)
  have hok : Hid (OrderOk n sc O) := hide (by rw [hO.out, hn.out, hsc.out]; exact order_ok _)
  have hol : O.length ≤ n := by rw [hO.out, hn.out]; exact order_len _
  have hRat : Hid (∀ k : Nat, k < n → R[k]? = some (decide ((k : Int) ∈ O))) := hide (fun k hk => by rw [hR.out, hO.out]; exact reach_at _ _ (by rw [← hn.out]; exact hk))
  rw [← hn.out]
  rw [← hn.out] at hf hm2
  obtain ⟨W, hW, hwW, hWs, hx⟩ := boxes1 w #[.string f.name, .slice A1 f.params.length k1, .int .i64 f.ret, .slice A2 n k2] 25
  have q0 : ∀ w', Below W.heap.size W w' → w'.cell? ⟨w.heap.size, 0, none⟩ = some (.string f.name) := hx 0 _ rfl
  have q1 : ∀ w', Below W.heap.size W w' → w'.cell? ⟨w.heap.size, 1, none⟩ = some (.slice A1 f.params.length k1) := hx 1 _ rfl
  have q2 : ∀ w', Below W.heap.size W w' → w'.cell? ⟨w.heap.size, 2, none⟩ = some (.int .i64 f.ret) := hx 2 _ rfl
  have q3 : ∀ w', Below W.heap.size W w' → w'.cell? ⟨w.heap.size, 3, none⟩ = some (.slice A2 n k2) := hx 3 _ rfl
  clear hx
  have hws : w.heap.size ≤ W.heap.size := by omega
  replace hWs := hide hWs
  have hself := Below.refl W.heap.size W
  have hF : Hid (∀ w', Below W.heap.size W w' → RFun.rep w' w'.heap.size [.string f.name, .slice A1 f.params.length k1, .int .i64 f.ret, .slice A2 n k2] f) := hide (fun w' h => RFun.later hf (hwW.trans (h.mono hws)) (hwW.trans (h.mono hws)).size)
  have cO : Hid (∀ w', Below W.heap.size W w' → Calls Try.prog 41 #[f.v (.slice A1 f.params.length k1) (.slice A2 n k2)] w' (OrdPost O w')) := hide (fun w' h => by
    have := order_any f (.slice A1 f.params.length k1) (.slice A2 n k2) w' w'.heap.size (Nat.le_refl _) (hF.out w' h) hs
    rwa [← hO.out] at this)
  have cP : Hid (∀ w', Below W.heap.size W w' → Calls Try.prog 42 #[f.v (.slice A1 f.params.length k1) (.slice A2 n k2)] w' (PredPost n P w')) := hide (fun w' h => by
    have := preds_any f (.slice A1 f.params.length k1) (.slice A2 n k2) w' w'.heap.size (Nat.le_refl _) (hF.out w' h) hs
    rwa [← hn.out, ← hsc.out, ← hP.out] at this)
  have cR : Hid (∀ w', Below W.heap.size W w' → Calls Try.prog 39 #[f.v (.slice A1 f.params.length k1) (.slice A2 n k2)] w' (ReachPost n R w')) := hide (fun w' h => by
    have := reach_any f (.slice A1 f.params.length k1) (.slice A2 n k2) w' w'.heap.size (Nat.le_refl _) (hF.out w' h) hs
    rwa [← hn.out, ← hR.out] at this)
  have cI : Hid (∀ w', Below W.heap.size W w' → Calls Try.prog 40 #[f.v (.slice A1 f.params.length k1) (.slice A2 n k2)] w' (IdomPost sc O n w')) := hide (fun w' h => by
    have := idom_any f (.slice A1 f.params.length k1) (.slice A2 n k2) w' w'.heap.size (Nat.le_refl _) (hF.out w' h) hs
    rwa [← hn.out, ← hO.out, ← hsc.out] at this)
  obtain ⟨lb, hlb⟩ : ∃ lb, Hid (lb = long7F f) := ⟨_, hide rfl⟩
  have cL : Hid (∀ w', Below W.heap.size W w' → Calls Try.prog 36 #[f.v (.slice A1 f.params.length k1) (.slice A2 n k2)] w' (RetB lb w')) := hide (fun w' h => by
    have := long07_any f (.slice A1 f.params.length k1) (.slice A2 n k2) w' w'.heap.size (Nat.le_refl _) (hF.out w' h) hsz
    rwa [← hlb.out] at this)
  have cD : Hid (∀ (a b : Int) w', Below W.heap.size W w' → Calls Try.prog 37 #[f.v (.slice A1 f.params.length k1) (.slice A2 n k2), .int .i64 a, .int .i64 b] w' (RetB (domB sc O a b) w')) := hide (fun (a b : Int) w' h => by
    have := dominates_bb f a b (.slice A1 f.params.length k1) (.slice A2 n k2) w' w'.heap.size (Nat.le_refl _) (hF.out w' h) hs
    rwa [← hO.out, ← hsc.out] at this)
  replace hs := hide hs
  replace hf := hide hf
  replace hwW := hide hwW
  obtain ⟨i0, hi0, hz0, hz1, hz2⟩ := cinfo_parts cinfo_int
  replace hi0 := hide hi0
  replace hz0 := hide hz0
  replace hz1 := hide hz1
  replace hz2 := hide hz2
  go_enter Try.func10, Try.ntmps10
  go_wp2_with (fail)
  refine (lives07_any _).mono ?_
  rintro e w1 ⟨rfl, hb1⟩
  go_wp2_with (fail)
  refine (cL.out _ hb1).mono ?_
  rintro e w2 ⟨rfl, hb2⟩
  have hbel2 := hb1.trans (hb2.mono hb1.size)
  clear hb1 hb2 cL
  cases lb with
  | true =>
    go_wp2
    go_ret
    exact ⟨rfl, hwW.out.trans (hbel2.mono hws)⟩
  | false =>
    have hs2 := hbel2.size
    go_upto_region 6 with (fail)
    go_region_held3 (fun w' => Below W.heap.size W w') (first | (with_reducible assumption) | exact hbel2.drew)
      (first
        | (go_at_call 40; refine (cI.out _ hk6).mono ?_; rintro e X ⟨gl, l, rfl, hI, hN7, hb7⟩; have hk7 : Below W.heap.size W X := hk6.trans (hb7.mono hk6.size); have hO7 := hide (hO6.out.kept (w' := X) fun k _ hk => hb7.block k hk); have hL7 := hide (hL6.out.below hb7); have hR7 := hide (row_kept hR6.out fun k hk => hb7.block k (row_lt hR6.out hk).2.1); have hN7' := hide hN7; have hI' := hide hI; clear hN7 hI hb7)
        | (go_at_call 39; refine (cR.out _ hk5).mono ?_; rintro e w6 ⟨gr, rfl, hR, hb6⟩; have hk6 : Below W.heap.size W w6 := hk5.trans (hb6.mono hk5.size); have hO6 := hide (hO5.out.kept (w' := w6) fun k _ hk => hb6.block k hk); have hL6 := hide (hL5.out.below hb6); have hR6 := hide hR; clear hR hb6)
        | (go_at_call 42; refine (cP.out _ hk4).mono ?_; rintro e w5 ⟨gp, cs, rfl, hL, hb5⟩; have hk5 : Below W.heap.size W w5 := hk4.trans (hb5.mono hk4.size); have hO5 := hide (hO4.out.kept (w' := w5) fun k _ hk => hb5.block k hk); have hL5 := hide hL; clear hL hb5)
        | (go_at_call 41; refine (cO.out _ (hbel2.drew)).mono ?_; rintro e w4 ⟨vo, rfl, hO, hb4⟩; have hk4 : Below W.heap.size W w4 := (hbel2.drew).trans (hb4.mono hs2); have hO4 := hide hO; clear hO hb4))
    obtain ⟨Ac, kc, e9, hOr⟩ := int_reads hO7.out
    subst e9
    have hPr := rows_reads hL7.out hPl
    obtain ⟨-, hRr⟩ := bool_reads hR7.out
    have hLr := hN7'.out.reads
    have hll : l.length = n := hN7'.out.len
    have hkX := hk7.size
    have hwX : Hid (Below w.heap.size w X) := hide (hwW.out.trans (hk7.mono hws))
    have hwXs : Hid (w.heap.size ≤ X.heap.size) := hide hwX.out.size
    have p0 : ∀ w', Below X.heap.size X w' → w'.cell? ⟨w.heap.size, 0, none⟩ = some (.string f.name) := fun w' h => q0 w' (hk7.trans (h.mono hkX))
    have p1 : ∀ w', Below X.heap.size X w' → w'.cell? ⟨w.heap.size, 1, none⟩ = some (.slice A1 f.params.length k1) := fun w' h => q1 w' (hk7.trans (h.mono hkX))
    have p2 : ∀ w', Below X.heap.size X w' → w'.cell? ⟨w.heap.size, 2, none⟩ = some (.int .i64 f.ret) := fun w' h => q2 w' (hk7.trans (h.mono hkX))
    have p3 : ∀ w', Below X.heap.size X w' → w'.cell? ⟨w.heap.size, 3, none⟩ = some (.slice A2 n k2) := fun w' h => q3 w' (hk7.trans (h.mono hkX))
    have cX : Hid (∀ (x y : Int) (r : Bool), domB sc O x y = r → ∀ w', Below X.heap.size X w' → Calls Try.prog 37 #[f.v (.slice A1 f.params.length k1) (.slice A2 n k2), .int .i64 x, .int .i64 y] w' (RetB r w')) := hide (fun x y r h w' h' => by have := cD.out x y w' (hk7.trans (h'.mono hkX)); rwa [h] at this)
    replace hOr := hide hOr
    replace hPr := hide hPr
    replace hRr := hide hRr
    replace hLr := hide hLr
    have hselfX := Below.refl X.heap.size X
    clear hR7 hO7 hL7 hN7' q0 q1 q2 q3 hself hbel2 hs2 hk4 hk5 hk6 hk7 hkX hO4 hO5 hL5 hO6 hL6 hR6 cO cP cR cI cD hF hW
    go_wp2_with (at_make; refine wpList_make_full _ rfl (.tmp 46) (.tmp 46) _ rfl X.heap.size 3 i0 _ 1 Try.underlying22 hi0.out hz0.out hz1.out .i64 .i64 n n n rfl rfl rfl rfl ?c1 ?c2 (Nat.le_refl _) ?_)
    case c1 => rw [hz2.out]; omega
    case c2 => unfold maxLen; omega
    intro Y hown5 hg5
    have hbXY : Below X.heap.size X Y := below_grown0 hg5
    have hYR : Hid (OwnN Y X.heap.size X.heap.size n (List.replicate n 0)) := hide (made_zeros hown5)
    have hsY : X.heap.size < Y.heap.size := hYR.out.lt.2
    clear hown5 hg5 hselfX
    have oR : Hid (∀ (i : Nat) x, O[i]? = some x → ∃ g, Ac = some ⟨g, 0, none⟩ ∧ ∀ w', Below X.heap.size X w' → w'.cell? ⟨g, i, none⟩ = some (.int .i64 x)) := hide (fun i x hx => by
      obtain ⟨g, h1, h2⟩ := hOr.out (by have := (List.getElem?_eq_some_iff.1 hx).1; omega)
      exact ⟨g, h1, h2 i x hx⟩)
    go_wp2
    go_loopw [50] (fun s wr => ∃ j : Nat, s = .int .i64 j ∧ j ≤ O.length ∧ Hid (∃ R, (∀ (i : Nat) b, i < j → O[i]? = some b → R[b.toNat]? = some (i : Int)) ∧ OwnN wr X.heap.size X.heap.size n R) ∧ Hid (Only (fun k => k = X.heap.size) Y.heap.size Y wr)) (fun s _ => O.length - (intOf s).toNat)
    case atStart => exact ⟨0, rfl, Nat.zero_le _, hide ⟨_, fun i b hi => by omega, hYR.out⟩, hide (Only.refl _ _ _)⟩
    case round =>
      clear hYR
      obtain ⟨j, rfl, hj, hl, hOn⟩ := hrel
      have hbwr : Hid (Below X.heap.size X wr) := hide (hbXY.trans (hOn.out.to_below (fun k hk => by have : k = X.heap.size := hk; omega) (by omega)))
      by_cases hlt : j < O.length
      · obtain ⟨R0, hl1, hl2⟩ := hl.out
        have hll2 := hl2.len
        obtain ⟨b, hb⟩ := get_ex (l := O) (k := j) hlt
        obtain ⟨b0, b9⟩ := hok.out.bound b (List.mem_of_getElem? hb.out)
        obtain ⟨bn, hbn⟩ := Int.eq_ofNat_of_zero_le b0
        subst hbn
        have hbm : bn < n := by omega
        obtain ⟨go_, hgo, r0⟩ := oR.out j _ hb.out
        subst hgo
        have rb := r0 _ hbwr.out
        obtain ⟨x, hx⟩ := get_ex (l := R0) (k := bn) (by omega)
        have c0 := hl2.cell hx.out
        have c1 := hl2.free bn
        have st := hide (hl2.set_ bn (j : Int))
        have hl3 : Hid (∀ (i : Nat) b, i < j + 1 → O[i]? = some b → (R0.set bn (j : Int))[b.toNat]? = some (i : Int)) := hide (fun i b hi hb2 => by
          by_cases e : i = j
          · subst e
            have : b = (bn : Int) := by have := hb.out; rw [hb2] at this; exact Option.some.inj this
            subst this
            rw [Int.toNat_natCast, List.getElem?_set_self (by omega)]
          · have hbb := hok.out.bound b (List.mem_of_getElem? hb2)
            have : b.toNat ≠ bn := fun e2 => by
              have e3 : b = (bn : Int) := by omega
              subst e3
              have g1 := idx_at hok.out.nodup hb2
              have g2 := idx_at hok.out.nodup hb.out
              omega
            rw [List.getElem?_set_ne (fun h => this h.symm)]
            exact hl1 i b (by omega) hb2)
        have hO2 : Hid (Only (fun k => k = X.heap.size) Y.heap.size Y (wr.setCell ⟨X.heap.size, bn, none⟩ (.int .i64 (j : Int)))) := hide (Only.setCell (p := ⟨X.heap.size, bn, none⟩) hOn.out (.inl rfl) (.int .i64 (j : Int)))
        have hmi : (j : Int) < (O.length : Int) := by omega
        replace hl2 := hide hl2
        replace r0 := hide r0
        clear hl hl1 b0 b9
        go_wp2
        go_roundw
        case rel => exact ⟨j + 1, by go_num, hlt, hide ⟨_, hl3.out, st.out⟩, hO2⟩
        case measure => simp [intOf]; omega
      · obtain rfl : j = O.length := by omega
        rename World => Z
        obtain ⟨R0, hl1, hZR⟩ := hl.out
        have hRk : Hid (RankOk O n R0) := hide ⟨hZR.len, fun i b hb => hl1 i b ((List.getElem?_eq_some_iff.1 hb).1) hb⟩
        have hRr0 : Hid (∀ (k : Nat) x, R0[k]? = some x → ∀ w', Below Z.heap.size Z w' → w'.cell? ⟨X.heap.size, k, none⟩ = some (.int .i64 x)) := hide hZR.reads
        have hsXZ : Hid (X.heap.size ≤ Z.heap.size) := hide hbwr.out.size
        have hZX : Hid (∀ w', Below Z.heap.size Z w' → Below X.heap.size X w') := hide (fun w' h => hbwr.out.trans (h.mono hsXZ.out))
        have z0 : ∀ w', Below Z.heap.size Z w' → w'.cell? ⟨w.heap.size, 0, none⟩ = some (.string f.name) := fun w' h => p0 w' (hZX.out w' h)
        have z1 : ∀ w', Below Z.heap.size Z w' → w'.cell? ⟨w.heap.size, 1, none⟩ = some (.slice A1 f.params.length k1) := fun w' h => p1 w' (hZX.out w' h)
        have z2 : ∀ w', Below Z.heap.size Z w' → w'.cell? ⟨w.heap.size, 2, none⟩ = some (.int .i64 f.ret) := fun w' h => p2 w' (hZX.out w' h)
        have z3 : ∀ w', Below Z.heap.size Z w' → w'.cell? ⟨w.heap.size, 3, none⟩ = some (.slice A2 n k2) := fun w' h => p3 w' (hZX.out w' h)
        have cZ : Hid (∀ (x y : Int) (r : Bool), domB sc O x y = r → ∀ w', Below Z.heap.size Z w' → Calls Try.prog 37 #[f.v (.slice A1 f.params.length k1) (.slice A2 n k2), .int .i64 x, .int .i64 y] w' (RetB r w')) := hide (fun x y r h w' h' => cX.out x y r h w' (hZX.out w' h'))
        have hselfZ := Below.refl Z.heap.size Z
        replace hZR := hide hZR
        clear hl hl1 hOn hbXY hlt hj p0 p1 p2 p3 cX hsY
        go_wp2
        go_loopw [69] (fun s wr => ∃ b : Nat, s = .int .i64 b ∧ b ≤ n ∧ Below Z.heap.size Z wr) (fun s _ => n - (intOf s).toNat)
        case atStart => exact ⟨0, rfl, Nat.zero_le _, hselfZ⟩
        case round =>
          clear hselfZ
          rename World => V
          obtain ⟨b, rfl, hb, hbel⟩ := hrel
          by_cases hlt : b < n
          · have hbi : (b : Int) < (n : Int) := by omega
            obtain ⟨u, hu⟩ := get_ex (l := l) (k := b) (by omega)
            have ru := hLr.out b u hu.out _ (hZX.out _ hbel)
            have rb := hRr.out b _ (hRat.out b hlt) _ (hZX.out _ hbel)
            by_cases hbo : (b : Int) ∈ O ∧ b ≠ 0
            · obtain ⟨v, h3, h4, h5, h6, h7, h8⟩ := hI'.out.some_ b hlt hbo.1 hbo.2
              have huv : u = v := by have := hu.out; rw [h3] at this; exact (Option.some.inj this).symm
              subst huv
              obtain ⟨hu0, hun⟩ := hok.out.bound u h4
              obtain ⟨un, hue⟩ := Int.eq_ofNat_of_zero_le hu0
              subst hue
              have hunn : un < n := by omega
              rw [show decide ((b : Int) ∈ O) = true from decide_eq_true hbo.1] at rb
              have hb0 : ((b : Int) == 0) = false := by rw [beq_eq_false_iff_ne]; have := hbo.2; omega
              obtain ⟨ib, hib⟩ : ∃ ib, Hid (ib = O.idxOf (b : Int)) := ⟨_, hide rfl⟩
              obtain ⟨iu, hiu⟩ : ∃ iu, Hid (iu = O.idxOf (un : Int)) := ⟨_, hide rfl⟩
              have hlt2 : iu < ib := by rw [hib.out, hiu.out]; exact h6
              have hnge : ¬ ((iu : Int) ≥ (ib : Int)) := by omega
              have e1 : R0[b]? = some (ib : Int) := by have := hRk.out.at_ hbo.1; rwa [← hib.out, Int.toNat_natCast] at this
              have e2 : R0[un]? = some (iu : Int) := by have := hRk.out.at_ h4; rwa [← hiu.out, Int.toNat_natCast] at this
              have s1 : ∀ w', Below Z.heap.size Z w' → w'.cell? ⟨X.heap.size, b, none⟩ = some (.int .i64 ib) := hRr0.out _ _ e1
              have s2 : ∀ w', Below Z.heap.size Z w' → w'.cell? ⟨X.heap.size, un, none⟩ = some (.int .i64 iu) := hRr0.out _ _ e2
              have cU := hide (cZ.out un b true (domB_iff.2 ⟨h4, hbo.1, h7⟩))
              have hnm : (((un : Int)) != -1) = true := by rw [bne_iff_ne]; omega
              have hpr : Hid (∀ p, P[b]? = some p → ∀ x : Int, x ∈ p → x ∈ O → domB sc O un x = true) := hide (fun p hp x hx hxo => by
                rw [hP.out] at hp
                have hsx := ((predsL_mem hp x).1 hx).2.2
                exact domB_iff.2 ⟨h4, hxo, fun hr => h7 (.step hr hsx (fun e => h5 e.symm))⟩)
              obtain ⟨p, hp⟩ := get_ex (l := P) (k := b) (by omega)
              obtain ⟨Ap, Cp, p1, p2⟩ := hPr.out b p hp.out
              have hpin : Hid (∀ x, x ∈ p → 0 ≤ x ∧ x < n) := hide (fun x hx => by
                have hp2 := hp.out
                rw [hP.out] at hp2
                obtain ⟨h1, h2, -⟩ := (predsL_mem hp2 x).1 hx
                exact ⟨h1, h2⟩)
              have hpl : p.length ≤ 9000000 := by
                have hp2 := hp.out
                rw [hP.out] at hp2
                have := range_len n p ((predsL_sorted hp2).imp fun h => by omega) hpin.out
                omega
              replace h4 := hide h4
              replace hbo := hide hbo
              clear h3 h5 h6 h7 h8 hnm e1 e2
              have dA : decide ((un : Int) < 0) = false := decide_eq_false (by omega)
              have dB : decide (n ≤ un) = false := decide_eq_false (by omega)
              have dC : decide (ib ≤ iu) = false := decide_eq_false (by omega)
              go_upto_region 22 with (fail)
              go_cut [109] (fun s wx => s = .bool false ∧ Below Z.heap.size Z wx)
              case first =>
                clear ru rb
                refine region_below (by kernel_rfl) (by kernel_rfl) hbel ?_
                repeat (first
                  | go_big_quiet_skip
                  | (go_big_quiet_want; go_big_quiet_op; go_big_quiet_on)
                  | (go_big_quiet_want
                     apply Exists.intro
                     refine ⟨fun w9 hw9 => ?_, ?_⟩
                     · go_simp
                       first
                         | with_reducible exact ret_classb (cU.out _ hw9) hw9
                         | rfl
                     go_simp
                     go_big_quiet_on))
                refine wpQuiet_nil ?_
                intro w9 hw9
                go_wp2
                go_meet
                exact ⟨rfl, hw9⟩
              case rest =>
                obtain ⟨rfl, hbel5⟩ := hcut
                rename World => V5
                clear hbel ru rb s1 s2
                have rp := p1 _ (hZX.out _ hbel5)
                have hself5 := Below.refl V5.heap.size V5
                go_wp2
                go_loopw [115] (fun s wr => ∃ t : Nat, s = .int .i64 t ∧ t ≤ p.length ∧ Below Z.heap.size Z wr) (fun s _ => p.length - (intOf s).toNat)
                case atStart => exact ⟨0, rfl, Nat.zero_le _, hbel5⟩
                case round =>
                  clear hself5 hbel5 rp
                  rename World => V6
                  obtain ⟨t, rfl, ht, hbel⟩ := hrel
                  have hbs := hbel.size
                  by_cases hlt3 : t < p.length
                  · obtain ⟨x, hx⟩ := get_ex (l := p) (k := t) hlt3
                    have hxm := List.mem_of_getElem? hx.out
                    obtain ⟨x0, x9⟩ := hpin.out x hxm
                    obtain ⟨xn, hxe⟩ := Int.eq_ofNat_of_zero_le x0
                    subst hxe
                    have hxn : xn < n := by omega
                    obtain ⟨gp2, hgp2, r2⟩ := p2 (by omega)
                    subst hgp2
                    have rx := r2 t _ hx.out _ (hZX.out _ hbel)
                    have rr := hRr.out xn _ (hRat.out xn hxn) _ (hZX.out _ hbel)
                    have hti : (t : Int) < (p.length : Int) := by omega
                    replace r2 := hide r2
                    by_cases hxo : (xn : Int) ∈ O
                    · rw [show decide ((xn : Int) ∈ O) = true from decide_eq_true hxo] at rr
                      have cx := hide (cZ.out un xn true (hpr.out p hp.out _ hxm hxo))
                      replace hxo := hide hxo
                      replace hxm := hide hxm
                      go_wp2_with (fail)
                      refine (cx.out _ hbel).mono ?_
                      rintro e w7 ⟨rfl, hb7⟩
                      have hbel7 := hbel.trans (hb7.mono hbs)
                      clear hb7
                      go_wp2
                      go_roundw
                      case rel => exact ⟨t + 1, by go_num, hlt3, hbel7⟩
                      case measure => simp [intOf]; omega
                    · rw [show decide ((xn : Int) ∈ O) = false from decide_eq_false hxo] at rr
                      replace hxo := hide hxo
                      replace hxm := hide hxm
                      go_wp2
                      go_roundw
                      case rel => exact ⟨t + 1, by go_num, hlt3, hbel⟩
                      case measure => simp [intOf]; omega
                  · obtain rfl : t = p.length := by omega
                    go_wp2
                    go_roundw
                    case rel => exact ⟨b + 1, by go_num, hlt, hbel⟩
                    case measure => simp [intOf]; omega
            · have hu1 : u = -1 := by
                have h1 := hI'.out.none_ b hlt (by by_cases h0 : b = 0; exact .inr h0; exact .inl fun h2 => hbo ⟨h2, h0⟩)
                rw [hu.out] at h1
                exact Option.some.inj h1
              subst hu1
              by_cases hbm : (b : Int) ∈ O
              · have hb0 : b = 0 := by
                  by_cases h0 : b = 0
                  · exact h0
                  · exact (hbo ⟨hbm, h0⟩).elim
                subst hb0
                rw [show decide (((0 : Nat) : Int) ∈ O) = true from decide_eq_true hbm] at rb
                replace hbo := hide hbo
                replace hbm := hide hbm
                go_wp2
                go_roundw
                case rel => exact ⟨1, by go_num, hlt, hbel⟩
                case measure => simp [intOf]; omega
              · rw [show decide ((b : Int) ∈ O) = false from decide_eq_false hbm] at rb
                replace hbo := hide hbo
                replace hbm := hide hbm
                go_wp2
                go_roundw
                case rel => exact ⟨b + 1, by go_num, hlt, hbel⟩
                case measure => simp [intOf]; omega
          · obtain rfl : b = n := by omega
            have hlast : Hid (Below w.heap.size w V) := hide (hwX.out.trans ((hZX.out _ hbel).mono hwXs.out))
            go_wp2
            go_ret
            exact ⟨rfl, hlast.out⟩
end Go.Proofs.Ytaljdbmmjgmbbaa
