/- The law DomOrders, walked. No condition but sizes. -/
import Derived.Test.YtaljdbmmjgmbbaaDoG
import Derived.Test.YtaljdbmmjgmbbaaDoJ
import Derived.Test.YtaljdbmmjgmbbaaStq
namespace Go.Proofs.Ytaljdbmmjgmbbaa
open Go.RowKit
set_option linter.unusedSimpArgs false
set_option linter.unusedVariables false

theorem pick_mod (a : Int) {n : Nat} (h : 0 < n) (hn : n ≤ 2000000) : ∃ A : Nat, Hid (A < n) ∧ Hid (wrap64 ((IntKind.u64.wrap a).tmod (n : Int)) = (A : Int)) := by
  have h0 : 0 ≤ IntKind.u64.wrap a := wrap_u64_nonneg a
  have h1 : 0 ≤ (IntKind.u64.wrap a) % (n : Int) := Int.emod_nonneg _ (by omega)
  have h2 : (IntKind.u64.wrap a) % (n : Int) < (n : Int) := Int.emod_lt_of_pos _ (by omega)
  refine ⟨((IntKind.u64.wrap a) % (n : Int)).toNat, hide (by omega), hide ?_⟩
  have hw : ∀ z : Int, 0 ≤ z → z ≤ 9223372036854775807 → wrap64 z = z := fun z _ _ => by unfold wrap64; omega
  rw [Int.tmod_eq_emod_of_nonneg h0, hw _ (by omega) (by omega), Int.toNat_of_nonneg (by omega)]
set_option maxRecDepth 100000 in
set_option maxHeartbeats 12800000 in
theorem law_dom_orders (f : Fun) (a b c : Int) (c1 c2 : Value) (w : World) (hf : RFun.rep w w.heap.size [.string f.name, c1, .int .i64 f.ret, c2] f) (hs : Small f) (hsz : funSz f ≤ 2000000) :
    Calls Try.prog 9 #[f.v c1 c2, .int .i64 a, .int .i64 b, .int .i64 c] w (LawPost w) := by
  obtain ⟨hp, hb⟩ := fun_open (RFun.later hf (Below.refl _ _) (Nat.le_refl _))
  obtain ⟨A1, k1, h1, -, -⟩ := Rp.slice1_open hp
  obtain ⟨A2, k2, h2, hm2, -⟩ := Rp.slice1_open hb
  cases h1; cases h2
  clear hp hb
  obtain ⟨n, hn⟩ : ∃ n, Hid (n = f.blocks.length) := ⟨_, hide rfl⟩
  have hnle : n ≤ 2000000 := by rw [hn.out]; exact hs.blocks
  obtain ⟨O, hO⟩ : ∃ O, Hid (O = orderF f.blocks) := ⟨_, hide rfl⟩
  obtain ⟨sc, hsc⟩ : ∃ sc, Hid (sc = succsF f.blocks) := ⟨_, hide rfl⟩
  obtain ⟨R, hR⟩ : ∃ R, Hid (R = reachF f.blocks) := ⟨_, hide rfl⟩
  obtain ⟨P, hP⟩ : ∃ P, Hid (P = predsL sc n) := ⟨_, hide rfl⟩
  have hPl : P.length = n := by rw [hP.out, predsL_len]
  have hRl : R.length = n := by rw [hR.out, hn.out, reach_len]
  have hsok : Hid (∀ b, SuccOk n (sc b)) := hide (fun b => by rw [hsc.out, hn.out]; exact succsF_ok _ _)
  have hok : Hid (OrderOk n sc O) := hide (by rw [hO.out, hn.out, hsc.out]; exact order_ok _)
  have hol : O.length ≤ n := by rw [hO.out, hn.out]; exact order_len _
  have hRat : Hid (∀ k : Nat, k < n → R[k]? = some (decide ((k : Int) ∈ O))) := hide (fun k hk => by rw [hR.out, hO.out]; exact reach_at _ _ (by rw [← hn.out]; exact hk))
  rw [← hn.out]
  rw [← hn.out] at hf hm2
  obtain ⟨W, hW, hwW, hWs, hx⟩ := boxes1 w #[.string f.name, .slice A1 f.params.length k1, .int .i64 f.ret, .slice A2 n k2] 25
  have q0 : ∀ w', Below W.heap.size W w' → w'.cell? ⟨w.heap.size, 0, none⟩ = some (.string f.name) := hx 0 _ rfl
  have q1 : ∀ w', Below W.heap.size W w' → w'.cell? ⟨w.heap.size, 1, none⟩ = some (.slice A1 f.params.length k1) := hx 1 _ rfl
  have q2 : ∀ w', Below W.heap.size W w' → w'.cell? ⟨w.heap.size, 2, none⟩ = some (.int .i64 f.ret) := hx 2 _ rfl
  have q3 : ∀ w', Below W.heap.size W w' → w'.cell? ⟨w.heap.size, 3, none⟩ = some (.slice A2 n k2) := hx 3 _ rfl
  clear hx
  have hws : w.heap.size ≤ W.heap.size := by omega
  replace hWs := hide hWs
  have hself := Below.refl W.heap.size W
  have hF : Hid (∀ w', Below W.heap.size W w' → RFun.rep w' w'.heap.size [.string f.name, .slice A1 f.params.length k1, .int .i64 f.ret, .slice A2 n k2] f) := hide (fun w' h => RFun.later hf (hwW.trans (h.mono hws)) (hwW.trans (h.mono hws)).size)
  have cR : Hid (∀ w', Below W.heap.size W w' → Calls Try.prog 39 #[f.v (.slice A1 f.params.length k1) (.slice A2 n k2)] w' (ReachPost n R w')) := hide (fun w' h => by
    have := reach_any f (.slice A1 f.params.length k1) (.slice A2 n k2) w' w'.heap.size (Nat.le_refl _) (hF.out w' h) hs
    rwa [← hn.out, ← hR.out] at this)
  have cI : Hid (∀ w', Below W.heap.size W w' → Calls Try.prog 40 #[f.v (.slice A1 f.params.length k1) (.slice A2 n k2)] w' (IdomPost sc O n w')) := hide (fun w' h => by
    have := idom_any f (.slice A1 f.params.length k1) (.slice A2 n k2) w' w'.heap.size (Nat.le_refl _) (hF.out w' h) hs
    rwa [← hn.out, ← hO.out, ← hsc.out] at this)
  obtain ⟨lb, hlb⟩ : ∃ lb, Hid (lb = long7F f) := ⟨_, hide rfl⟩
  have cL : Hid (∀ w', Below W.heap.size W w' → Calls Try.prog 36 #[f.v (.slice A1 f.params.length k1) (.slice A2 n k2)] w' (RetB lb w')) := hide (fun w' h => by
    have := long07_any f (.slice A1 f.params.length k1) (.slice A2 n k2) w' w'.heap.size (Nat.le_refl _) (hF.out w' h) hsz
    rwa [← hlb.out] at this)
  have cD : Hid (∀ (a b : Int) w', Below W.heap.size W w' → Calls Try.prog 37 #[f.v (.slice A1 f.params.length k1) (.slice A2 n k2), .int .i64 a, .int .i64 b] w' (RetB (domB sc O a b) w')) := hide (fun (a b : Int) w' h => by
    have := dominates_bb f a b (.slice A1 f.params.length k1) (.slice A2 n k2) w' w'.heap.size (Nat.le_refl _) (hF.out w' h) hs
    rwa [← hO.out, ← hsc.out] at this)
  replace hs := hide hs
  replace hf := hide hf
  replace hwW := hide hwW
  go_enter Try.func9, Try.ntmps9
  go_wp2_with (fail)
  refine (lives07_any _).mono ?_
  rintro e w1 ⟨rfl, hb1⟩
  go_wp2_with (fail)
  refine (cL.out _ hb1).mono ?_
  rintro e w2 ⟨rfl, hb2⟩
  have hbel2 := hb1.trans (hb2.mono hb1.size)
  clear hb1 hb2 cL
  cases lb with
  | true =>
    go_wp2
    go_ret
    exact ⟨rfl, hwW.out.trans (hbel2.mono hws)⟩
  | false =>
    by_cases hn0 : n = 0
    · subst hn0
      go_wp2
      go_ret
      exact ⟨rfl, hwW.out.trans (hbel2.mono hws)⟩
    · have hn0i : ((n : Int) == 0) = false := by simp; omega
      have hn1 : 0 < n := by omega
      have hn2 : ¬ (n : Int) = 0 := by omega
      go_upto_region 6 with (fail)
      go_quiet (fail)
      have hbel3 : Below W.heap.size W (w2.drewN nq) := below_drewN hbel2 _
      obtain ⟨w3, hw3⟩ : ∃ w3, w3 = w2.drewN nq := ⟨_, rfl⟩
      rw [← hw3] at hbel3 ⊢
      clear hw3 hbel2
      obtain ⟨A, hAn, hAe⟩ := pick_mod a hn1 hnle
      obtain ⟨B, hBn, hBe⟩ := pick_mod b hn1 hnle
      obtain ⟨C, hCn, hCe⟩ := pick_mod c hn1 hnle
      rw [hAe.out, hBe.out, hCe.out]
      clear hAe hBe hCe
      have hs3 := hbel3.size
      replace hn2 := hide hn2
      go_upto_region 7 with (fail)
      go_region_held3 (fun w' => Below W.heap.size W w') (first | (with_reducible assumption) | exact hbel3.drew)
        (first
          | (go_at_call 40; refine (cI.out _ hk4).mono ?_; rintro e X ⟨gl, l, rfl, hI, hN5, hb5⟩; have hk5 : Below W.heap.size W X := hk4.trans (hb5.mono hk4.size); have hR5 := hide (row_kept hR4.out fun k hk => hb5.block k (row_lt hR4.out hk).2.1); have hN5' := hide hN5; have hI' := hide hI; clear hN5 hI hb5)
          | (go_at_call 39; refine (cR.out _ (hbel3.drew)).mono ?_; rintro e w4 ⟨gr, rfl, hR, hb4⟩; have hk4 : Below W.heap.size W w4 := (hbel3.drew).trans (hb4.mono hs3); have hR4 := hide hR; clear hR hb4))
      obtain ⟨-, hRr⟩ := bool_reads hR5.out
      have hLr := hN5'.out.reads
      have hll : l.length = n := hN5'.out.len
      have hkX := hk5.size
      have hwX : Hid (Below w.heap.size w X) := hide (hwW.out.trans (hk5.mono hws))
      have hwXs : Hid (w.heap.size ≤ X.heap.size) := hide hwX.out.size
      have p0 : ∀ w', Below X.heap.size X w' → w'.cell? ⟨w.heap.size, 0, none⟩ = some (.string f.name) := fun w' h => q0 w' (hk5.trans (h.mono hkX))
      have p1 : ∀ w', Below X.heap.size X w' → w'.cell? ⟨w.heap.size, 1, none⟩ = some (.slice A1 f.params.length k1) := fun w' h => q1 w' (hk5.trans (h.mono hkX))
      have p2 : ∀ w', Below X.heap.size X w' → w'.cell? ⟨w.heap.size, 2, none⟩ = some (.int .i64 f.ret) := fun w' h => q2 w' (hk5.trans (h.mono hkX))
      have p3 : ∀ w', Below X.heap.size X w' → w'.cell? ⟨w.heap.size, 3, none⟩ = some (.slice A2 n k2) := fun w' h => q3 w' (hk5.trans (h.mono hkX))
      have hO0 : Hid ((0 : Int) ∈ O) := hide ((ord_ok hok.out hn1).zero)
      obtain ⟨da, hda⟩ : ∃ da : Bool, Hid (da = decide ((A : Int) ∈ O)) := ⟨_, hide rfl⟩
      obtain ⟨db, hdb⟩ : ∃ db : Bool, Hid (db = decide ((B : Int) ∈ O)) := ⟨_, hide rfl⟩
      obtain ⟨ab, hab⟩ : ∃ ab : Bool, Hid (ab = domB sc O A B) := ⟨_, hide rfl⟩
      obtain ⟨bc, hbc⟩ : ∃ bc : Bool, Hid (bc = domB sc O B C) := ⟨_, hide rfl⟩
      have ra : ∀ w', Below X.heap.size X w' → w'.cell? ⟨gr, A, none⟩ = some (.bool da) := by rw [hda.out]; exact hRr A _ (hRat.out A hAn.out)
      have rb : ∀ w', Below X.heap.size X w' → w'.cell? ⟨gr, B, none⟩ = some (.bool db) := by rw [hdb.out]; exact hRr B _ (hRat.out B hBn.out)
      have cX : Hid (∀ (x y : Int) (r : Bool), domB sc O x y = r → ∀ w', Below X.heap.size X w' → Calls Try.prog 37 #[f.v (.slice A1 f.params.length k1) (.slice A2 n k2), .int .i64 x, .int .i64 y] w' (RetB r w')) := hide (fun x y r h w' h' => by have := cD.out x y w' (hk5.trans (h'.mono hkX)); rwa [h] at this)
      have cAA : Hid (∀ w', Below X.heap.size X w' → Calls Try.prog 37 #[f.v (.slice A1 f.params.length k1) (.slice A2 n k2), .int .i64 A, .int .i64 A] w' (RetB da w')) := hide (cX.out _ _ _ (by rw [hda.out, Bool.eq_iff_iff, domB_iff, Dom.self_iff, decide_eq_true_eq]))
      have c0A : Hid (∀ w', Below X.heap.size X w' → Calls Try.prog 37 #[f.v (.slice A1 f.params.length k1) (.slice A2 n k2), .int .i64 0, .int .i64 A] w' (RetB da w')) := hide (cX.out _ _ _ (by rw [hda.out, Bool.eq_iff_iff, domB_iff, Dom.zero_iff hO0.out, decide_eq_true_eq]))
      have cAB := hide (cX.out A B _ hab.out.symm)
      have cBC := hide (cX.out B C _ hbc.out.symm)
      have hAi : (A : Int) < (n : Int) := by have := hAn.out; omega
      have hBi : (B : Int) < (n : Int) := by have := hBn.out; omega
      have hAl : A < n := hAn.out
      have hBl : B < n := hBn.out
      have hselfX := Below.refl X.heap.size X
      replace hLr := hide hLr
      clear hRr q0 q1 q2 q3 hself hbel3 hs3 hk4 hR4 hR5 hk5 hkX cD cR cI hF hW
      go_upto_region 8 with (fail)
      go_cut [81] (fun s wx => s = .bool false ∧ Below X.heap.size X wx)
      case first =>
        cases da with
        | false =>
          refine region_below (by kernel_rfl) (by kernel_rfl) hselfX ?_
          repeat (first
            | go_big_quiet_skip
            | (go_big_quiet_want; go_big_quiet_op; go_big_quiet_on)
            | (go_big_quiet_want
               apply Exists.intro
               refine ⟨fun w9 hw9 => ?_, ?_⟩
               · go_simp
                 first
                   | with_reducible exact ret_classb (cAA.out _ hw9) hw9
                   | with_reducible exact ret_classb (c0A.out _ hw9) hw9
                   | rfl
               go_simp
               go_big_quiet_on))
          refine wpQuiet_nil ?_
          intro w9 hw9
          go_wp2
          go_meet
          exact ⟨rfl, hw9⟩
        | true =>
          refine region_below (by kernel_rfl) (by kernel_rfl) hselfX ?_
          repeat (first
            | go_big_quiet_skip
            | (go_big_quiet_want; go_big_quiet_op; go_big_quiet_on)
            | (go_big_quiet_want
               apply Exists.intro
               refine ⟨fun w9 hw9 => ?_, ?_⟩
               · go_simp
                 first
                   | with_reducible exact ret_classb (cAA.out _ hw9) hw9
                   | with_reducible exact ret_classb (c0A.out _ hw9) hw9
                   | rfl
               go_simp
               go_big_quiet_on))
          refine wpQuiet_nil ?_
          intro w9 hw9
          go_wp2
          go_meet
          exact ⟨rfl, hw9⟩
      case rest =>
        obtain ⟨rfl, hbel4⟩ := hcut
        rename World => Y
        clear hselfX
        go_upto_region 10 with (fail)
        go_cut [12, 13] (fun s12 s13 wx => s12 = .bool ab ∧ s13 = .bool bc ∧ Below X.heap.size X wx)
        case first =>
          refine region_below (by kernel_rfl) (by kernel_rfl) hbel4 ?_
          repeat (first
            | go_big_quiet_skip
            | (go_big_quiet_want; go_big_quiet_op; go_big_quiet_on)
            | (go_big_quiet_want
               apply Exists.intro
               refine ⟨fun w9 hw9 => ?_, ?_⟩
               · go_simp
                 first
                   | with_reducible exact ret_classb (cAB.out _ hw9) hw9
                   | with_reducible exact ret_classb (cBC.out _ hw9) hw9
                   | rfl
               go_simp
               go_big_quiet_on))
          refine wpQuiet_nil ?_
          intro w9 hw9
          go_wp2
          go_meet
          exact ⟨rfl, rfl, hw9⟩
        case rest =>
          obtain ⟨rfl, rfl, hbel5⟩ := hcut
          rename World => Y5
          clear hbel4
          go_upto_region 11 with (fail)
          go_cut [114] (fun s wx => s = .bool false ∧ Below X.heap.size X wx)
          case first =>
            have cBA : Hid (ab = true → A ≠ B → ∀ w', Below X.heap.size X w' → Calls Try.prog 37 #[f.v (.slice A1 f.params.length k1) (.slice A2 n k2), .int .i64 B, .int .i64 A] w' (RetB false w')) := hide (fun h h' => cX.out _ _ _ (by
              rw [← Bool.not_eq_true, domB_iff]
              intro h2
              have h3 := domB_iff.1 (hab.out.symm.trans h)
              have := Dom.anti_ hI'.out hok.out hn1 h3 h2
              omega))
            have cAC : Hid (ab = true → bc = true → ∀ w', Below X.heap.size X w' → Calls Try.prog 37 #[f.v (.slice A1 f.params.length k1) (.slice A2 n k2), .int .i64 A, .int .i64 C] w' (RetB true w')) := hide (fun h h' => cX.out _ _ _ (domB_iff.2 ((domB_iff.1 (hab.out.symm.trans h)).trans_ (domB_iff.1 (hbc.out.symm.trans h')))))
            have hbs5 := hbel5.size
            cases ab with
            | false =>
              go_wp2
              go_meet
              exact ⟨rfl, hbel5⟩
            | true =>
              by_cases hAB : A = B
              · have hne : ((A : Int) != (B : Int)) = false := by simp [hAB]
                replace hAB := hide hAB
                cases bc with
                | false =>
                  go_wp2
                  go_meet
                  exact ⟨rfl, hbel5⟩
                | true =>
                  have cg := hide (cAC.out (by trivial) (by trivial))
                  go_wp2_with (fail)
                  refine (cg.out _ hbel5).mono ?_
                  rintro e w6 ⟨rfl, hb6⟩
                  have hbel6 := hbel5.trans (hb6.mono hbs5)
                  clear hb6
                  go_wp2
                  go_meet
                  exact ⟨rfl, hbel6⟩
              · have hne : ((A : Int) != (B : Int)) = true := by simp; omega
                have ch := hide (cBA.out (by trivial) hAB)
                replace hAB := hide hAB
                go_wp2_with (fail)
                refine (ch.out _ hbel5).mono ?_
                rintro e w6 ⟨rfl, hb6⟩
                have hbel6 := hbel5.trans (hb6.mono hbs5)
                have hbs6 := hbel6.size
                clear hb6
                cases bc with
                | false =>
                  go_wp2
                  go_meet
                  exact ⟨rfl, hbel6⟩
                | true =>
                  have cg := hide (cAC.out (by trivial) (by trivial))
                  go_wp2_with (fail)
                  refine (cg.out _ hbel6).mono ?_
                  rintro e w7 ⟨rfl, hb7⟩
                  have hbel7 := hbel6.trans (hb7.mono hbs6)
                  clear hb7
                  go_wp2
                  go_meet
                  exact ⟨rfl, hbel7⟩
          case rest =>
            obtain ⟨rfl, hbel6⟩ := hcut
            rename World => Y6
            clear hbel5
            have hst : Hid (UpS sc O l A B B 0) := hide (by
              by_cases hA : (A : Int) ∈ O
              · exact ups_start hI'.out hok.out hn1 (.inl hA)
              · by_cases hB : (B : Int) ∈ O
                · refine .inr (.inr ⟨hB, hB, by omega, ⟨fun h => (hA h.1).elim, fun h => ?_⟩⟩)
                  exfalso
                  have h1 := (hI'.out.tree hok.out hn1).anc h (hI'.out.alive hok.out hn1 hB)
                  exact hA ((hI'.out.tree hok.out hn1).mem h1.1)
                · exact .inr (.inl ⟨rfl, rfl, hB⟩))
            go_wp2
            go_loopw [14, 15] (fun s14 s15 wr => ∃ (x : Int) (i : Nat), s14 = .int .i64 x ∧ s15 = .int .i64 i ∧ i ≤ n + 1 ∧ Hid (UpS sc O l A B x i) ∧ Below X.heap.size X wr) (fun s14 s15 _ => if intOf s14 < 0 then 0 else n + 2 - (intOf s15).toNat)
            case atStart => exact ⟨B, 0, rfl, rfl, Nat.zero_le _, hst, hbel6⟩
            case round =>
              clear hbel6 hst
              obtain ⟨x, i, rfl, rfl, hi, hup, hbel⟩ := hrel
              have ra := ra _ hbel
              have rb := rb _ hbel
              have fin : Hid (∀ r : Bool, (r = true ↔ Dom sc O A B) → ab = r) := hide (fun r h => by rw [hab.out, Bool.eq_iff_iff, domB_iff]; exact h.symm)
              have hlast : Hid (Below w.heap.size w wr) := hide (hwX.out.trans (hbel.mono hwXs.out))
              rcases ups_cases hup.out hok.out (by omega : 0 ≤ (B : Int) ∧ (B : Int) < n) with hx | ⟨hx0, hxn, hin⟩
              · subst hx
                have hno := ups_neg hup.out hok.out (by omega)
                obtain rfl := fin.out false ⟨(fun h => by cases h), fun h => (hno h).elim⟩
                have hne : ((-1 : Int) == (A : Int)) = false := by rw [beq_eq_false_iff_ne]; omega
                have hii : (i : Int) ≤ (n : Int) ∨ ¬ (i : Int) ≤ (n : Int) := by omega
                replace hno := hide hno
                rcases hii with hii | hii
                · go_wp2
                  go_ret
                  exact ⟨rfl, hlast.out⟩
                · go_wp2
                  go_ret
                  exact ⟨rfl, hlast.out⟩
              · obtain ⟨xn, hxe⟩ := Int.eq_ofNat_of_zero_le hx0
                subst hxe
                have hii : (i : Int) ≤ (n : Int) := by omega
                have hxn2 : xn < n := by omega
                by_cases hxA : xn = A
                · subst hxA
                  have hend := ups_end hup.out hok.out (by omega)
                  have hne : ((xn : Int) != (xn : Int)) = false := by simp
                  have heq : ((xn : Int) == (xn : Int)) = true := by simp
                  have hfin : Hid (ab = (da && db)) := hide (fin.out _ (by rw [hend, hda.out, hdb.out]; simp))
                  replace hend := hide hend
                  cases da with
                  | false =>
                    have e := hfin.out
                    rw [Bool.false_and] at e
                    subst e
                    go_wp2
                    go_ret
                    exact ⟨rfl, hlast.out⟩
                  | true =>
                    have e := hfin.out
                    rw [Bool.true_and] at e
                    subst e
                    have heq2 : (ab == ab) = true := by simp
                    go_wp2
                    go_ret
                    exact ⟨rfl, hlast.out⟩
                · have hne : ((xn : Int) != (A : Int)) = true := by simp; omega
                  obtain ⟨u, hu⟩ := get_ex (l := l) (k := xn) (by omega)
                  have ru := hLr.out xn u hu.out _ hbel
                  have hup2 : Hid (UpS sc O l A B u (i + 1)) := hide (ups_step hI'.out hok.out hup.out hx0 hxn (by omega) (by rw [Int.toNat_natCast]; exact hu.out))
                  have hmeas : Hid ((if u < 0 then 0 else n + 2 - (i + 1)) < (if (xn : Int) < 0 then 0 else n + 2 - i)) := hide (by
                    rw [if_neg (by omega : ¬ (xn : Int) < 0)]
                    split <;> omega)
                  replace hxA := hide hxA
                  go_wp2
                  go_roundw
                  case rel => exact ⟨u, i + 1, rfl, by go_num, by omega, hup2, hbel⟩
                  case measure => exact hmeas.out
end Go.Proofs.Ytaljdbmmjgmbbaa
