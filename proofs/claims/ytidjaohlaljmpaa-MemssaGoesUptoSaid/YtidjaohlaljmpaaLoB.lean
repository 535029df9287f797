/- loops.above. No condition but sizes. | loops.latches. No condition but sizes. -/
import Derived.Test.YtidjaohlaljmpaaFrC
import Derived.Test.YtidjaohlaljmpaaDoG
namespace Go.Proofs.Ytidjaohlaljmpaa
open Go.RowKit
set_option linter.unusedSimpArgs false
set_option linter.unusedVariables false

/-- going up from b, so far at x -/
def AbS (sc : Int → List Int) (o : List Int) (a b x : Int) : Prop := (x = -1 ∧ ¬ Dom sc o a b) ∨ (x ∈ o ∧ (Dom sc o a b ↔ Dom sc o a x))
section
variable {sc : Int → List Int} {o l : List Int} {n : Nat} {a b x v : Int}
theorem abs_start (hb : b ∈ o) : AbS sc o a b b := .inr ⟨hb, Iff.rfl⟩
theorem abs_bound (O : OrderOk n sc o) (h : AbS sc o a b x) : x = -1 ∨ (0 ≤ x ∧ x < n ∧ x ∈ o) := by
  rcases h with ⟨h, -⟩ | ⟨h, -⟩
  · exact .inl h
  · have := O.bound _ h; exact .inr ⟨this.1, this.2, h⟩
theorem abs_step (I : IdomOk sc o n l) (O : OrderOk n sc o) (hn : 0 < n) {xn : Nat} (h : AbS sc o a b xn) (hne : (xn : Int) ≠ a) (hv : l[xn]? = some v) : AbS sc o a b v ∧ muW o v < muW o xn := by
  rcases h with ⟨h, -⟩ | ⟨h1, h2⟩
  · omega
  by_cases h0 : xn = 0
  · subst h0
    have hz := I.none_ 0 (by omega) (.inr rfl)
    rw [hv] at hz
    cases hz
    refine ⟨.inl ⟨rfl, fun h => hne ?_⟩, ?_⟩
    · exact (dom_zero_only O hn I (h2.1 h)).symm
    · unfold muW
      rw [if_pos rfl, if_neg (by omega)]
      omega
  · obtain ⟨g1, g2, g3, g4, g5⟩ := up_parts I O hn h1 h0 hv
    have hb := O.bound _ g1
    refine ⟨.inr ⟨g1, h2.trans ((g3 a).trans ⟨fun h => h.resolve_left (fun e => hne e.symm), .inr⟩)⟩, ?_⟩
    unfold muW
    rw [if_neg (by omega), if_neg (by omega)]
    omega
end
set_option maxRecDepth 100000 in
set_option maxHeartbeats 3200000 in
theorem labove_any {sc : Int → List Int} {o l : List Int} {n : Nat} (I : IdomOk sc o n l) (O : OrderOk n sc o) (hn : 0 < n) (a b : Int) (ha : a ∈ o) (hb : b ∈ o) (gl : Nat) (w : World) (hl : ∀ (k : Nat) x, l[k]? = some x → w.cell? ⟨gl, k, none⟩ = some (.int .i64 x)) :
    Calls Try.prog 62 #[.slice (some ⟨gl, 0, none⟩) n n, .int .i64 a, .int .i64 b] w fun e w' => e = .returned (.bool (domB sc o a b)) ∧ w' = w := by
  have hab := O.bound _ ha
  have hst := hide (abs_start (sc := sc) (a := a) hb)
  have hll : l.length = n := I.len
  have ha0 : ¬ (-1 : Int) = a := by omega
  have hm1 : ((-1 : Int) == a) = false := by simp; omega
  replace hab := hide hab
  replace I := hide I
  replace O := hide O
  replace ha := hide ha
  replace hb := hide hb
  replace hl := hide hl
  go_enter Try.func62, Try.ntmps62
  go_wp2
  go_loopw [2] (fun s wr => ∃ x : Int, s = .int .i64 x ∧ Hid (AbS sc o a b x) ∧ wr = w) (fun s _ => muW o (intOf s))
  case atStart => exact ⟨b, rfl, hst, rfl⟩
  case round =>
    clear hst
    obtain ⟨x, rfl, hx, rfl⟩ := hrel
    by_cases hxn : x = -1
    · subst hxn
      have hneg : ¬ ((-1 : Int) ≥ 0) := by omega
      have hr : Hid (domB sc o a b = false) := hide (by
        rcases hx.out with ⟨-, h⟩ | ⟨h, -⟩
        · rw [← Bool.not_eq_true, domB_iff]; exact h
        · have := O.out.bound _ h; omega)
      go_wp2
      go_ret
      exact ⟨by rw [hr.out]; rfl, rfl⟩
    · have hxb : 0 ≤ x ∧ x < n := by
        rcases abs_bound O.out hx.out with h | h
        · exact absurd h hxn
        · exact ⟨h.1, h.2.1⟩
      obtain ⟨xn, rfl⟩ := Int.eq_ofNat_of_zero_le hxb.1
      have hxnn : xn < n := by omega
      have hge : (xn : Int) ≥ 0 := by omega
      replace hxb := hide hxb
      replace hxn := hide hxn
      by_cases hxa : (xn : Int) = a
      · have h1 : ((xn : Int) != a) = false := by simp [hxa]
        have h2 : ((xn : Int) == a) = true := by simp [hxa]
        have hr : Hid (domB sc o a b = true) := hide (by
          rcases hx.out with ⟨h, -⟩ | ⟨h, h3⟩
          · omega
          · rw [domB_iff, h3, hxa]; exact Dom.refl_ ha.out)
        replace hxa := hide hxa
        go_wp2
        go_ret
        exact ⟨by rw [hr.out]; rfl, rfl⟩
      · have h1 : ((xn : Int) != a) = true := by simp [hxa]
        obtain ⟨v, hv⟩ := get_ex (l := l) (k := xn) (by omega)
        have hs := abs_step I.out O.out hn hx.out hxa hv.out
        have hs1 := hide hs.1
        have hs2 := hide hs.2
        have r0 := hl.out xn v hv.out
        clear hs
        replace hxa := hide hxa
        go_wp2
        go_roundw
        case rel => exact ⟨v, rfl, hs1, by trivial⟩
        case measure => simp [intOf]; exact hs2.out
end Go.Proofs.Ytidjaohlaljmpaa

namespace Go.Proofs.Ytidjaohlaljmpaa
open Go.RowKit
set_option linter.unusedSimpArgs false
set_option linter.unusedVariables false

/-- rows 0 .. a-1 whole, row a so far -/
def rU (D : Nat → List Int) (n a : Nat) (q : List Int) : List (List Int) := (List.range n).map fun t => if t < a then D t else if t = a then q else []
section
variable {D : Nat → List Int} {n a : Nat} {q q' : List Int}
theorem rU_len (D : Nat → List Int) (n a : Nat) (q : List Int) : (rU D n a q).length = n := by simp [rU]
theorem rU_at {t : Nat} (h : t < n) : (rU D n a q)[t]? = some (if t < a then D t else if t = a then q else []) := by simp [rU, h]
theorem rU_self (h : a < n) : (rU D n a q)[a]? = some q := by rw [rU_at h]; simp
theorem rU_ext {l : List (List Int)} (hl : l.length = n) (h : ∀ t, t < n → l[t]? = some (if t < a then D t else if t = a then q else [])) : l = rU D n a q := by
  refine List.ext_getElem? fun k => ?_
  by_cases hk : k < n
  · rw [h k hk, rU_at hk]
  · rw [List.getElem?_eq_none (by omega), List.getElem?_eq_none (by rw [rU_len]; omega)]
theorem rU_start : rU D n 0 [] = List.replicate n [] := (rU_ext (by simp) fun t ht => by
  rw [List.getElem?_replicate, if_pos ht]
  simp).symm
theorem rU_next : rU D n a (D a) = rU D n (a + 1) [] := rU_ext (rU_len ..) fun t ht => by
  rw [rU_at ht]
  by_cases h1 : t < a
  · rw [if_pos h1, if_pos (by omega)]
  · by_cases h2 : t = a
    · rw [if_neg h1, if_pos h2, if_pos (by omega), h2]
    · rw [if_neg h1, if_neg h2, if_neg (by omega)]; simp
theorem rU_end : rU D n n [] = (List.range n).map D := by
  refine List.ext_getElem? fun k => ?_
  by_cases hk : k < n
  · rw [rU_at hk, if_pos hk]; simp [hk]
  · rw [List.getElem?_eq_none (by rw [rU_len]; omega), List.getElem?_eq_none (by simp; omega)]
theorem rU_push (ha : a < n) : (rU D n a q).set a q' = rU D n a q' := rU_ext (by rw [List.length_set, rU_len]) fun t ht => by
  by_cases e : a = t
  · subst e; rw [List.getElem?_set_self (by rw [rU_len]; exact ht)]; simp
  · rw [List.getElem?_set_ne e, rU_at ht]
    have e2 : ¬ t = a := fun e3 => e e3.symm
    rw [if_neg e2, if_neg e2]
end
/-- a block's predecessors that it dominates -/
noncomputable def latF (sc : Int → List Int) (o : List Int) (P : List (List Int)) (h : Nat) : List Int := ((P[h]?).getD []).filter fun x => domB sc o h x
noncomputable def latL (sc : Int → List Int) (o : List Int) (P : List (List Int)) (n : Nat) : List (List Int) := (List.range n).map (latF sc o P)
def LatPost (sc : Int → List Int) (o : List Int) (P : List (List Int)) (n : Nat) (w : World) (e : Ending) (w' : World) : Prop := ∃ g cs, e = .returned (.slice (some ⟨g, 0, none⟩) n n) ∧ OwnL w' w.heap.size none (.slice (some ⟨g, 0, none⟩) n n) (latL sc o P n) cs ∧ Below w.heap.size w w'
noncomputable def latP (sc : Int → List Int) (o p : List Int) (h i : Nat) : List Int := (p.take i).filter fun x => domB sc o h x
theorem latP_step {sc : Int → List Int} {o p : List Int} {h i : Nat} {x : Int} (hx : p[i]? = some x) : latP sc o p h (i + 1) = latP sc o p h i ++ (if domB sc o h x = true then [x] else []) := by
  unfold latP
  rw [List.take_add_one, hx, List.filter_append]
  by_cases e : domB sc o h x = true
  · simp [e]
  · simp [e]
theorem latP_len {sc : Int → List Int} {o p : List Int} {h i : Nat} : (latP sc o p h i).length ≤ p.length := by
  unfold latP
  exact Nat.le_trans (List.length_filter_le ..) (by rw [List.length_take]; omega)
theorem latP_end {sc : Int → List Int} {o p : List Int} {P : List (List Int)} {h : Nat} (hp : P[h]? = some p) : latP sc o p h p.length = latF sc o P h := by
  unfold latP latF
  rw [hp, List.take_length]
  rfl
set_option maxRecDepth 100000 in
set_option maxHeartbeats 12800000 in
theorem latches_any (f : Fun) (c1 c2 : Value) (w : World) (B : Nat) (hB : B ≤ w.heap.size) (hf : RFun.rep w B [.string f.name, c1, .int .i64 f.ret, c2] f) (hs : Small f) (gp Bp : Nat) (csp : List Value) (hPw : OwnL w Bp none (.slice (some ⟨gp, 0, none⟩) f.blocks.length f.blocks.length) (predsL (succsF f.blocks) f.blocks.length) csp) :
    Calls Try.prog 38 #[f.v c1 c2, .slice (some ⟨gp, 0, none⟩) f.blocks.length f.blocks.length] w (LatPost (succsF f.blocks) (orderF f.blocks) (predsL (succsF f.blocks) f.blocks.length) f.blocks.length w) := by
  obtain ⟨hp, hb⟩ := fun_open (RFun.later hf (Below.refl _ _) hB)
  obtain ⟨A1, k1, h1, -, -⟩ := Rp.slice1_open hp
  obtain ⟨A2, k2, h2, hm2, -⟩ := Rp.slice1_open hb
  cases h1; cases h2
  clear hp hb
  obtain ⟨n, hn⟩ : ∃ n, Hid (n = f.blocks.length) := ⟨_, hide rfl⟩
  have hnle : n ≤ 2000000 := by rw [hn.out]; exact hs.blocks
  obtain ⟨O, hO⟩ : ∃ O, Hid (O = orderF f.blocks) := ⟨_, hide rfl⟩
  obtain ⟨sc, hsc⟩ : ∃ sc, Hid (sc = succsF f.blocks) := ⟨_, hide rfl⟩
  obtain ⟨R, hR⟩ : ∃ R, Hid (R = reachF f.blocks) := ⟨_, hide rfl⟩
  obtain ⟨P, hP⟩ : ∃ P, Hid (P = predsL sc n) := ⟨_, hide rfl⟩
  have hPl : P.length = n := by rw [hP.out, predsL_len]
  have hRl : R.length = n := by rw [hR.out, hn.out, reach_len]
  have hsok : Hid (∀ b, SuccOk n (sc b)) := hide (fun b => by rw [hsc.out, hn.out]; exact succsF_ok _ _)
  have hok : Hid (OrderOk n sc O) := hide (by rw [hO.out, hn.out, hsc.out]; exact order_ok _)
  have hol : O.length ≤ n := by rw [hO.out, hn.out]; exact order_len _
  have hRat : Hid (∀ k : Nat, k < n → R[k]? = some (decide ((k : Int) ∈ O))) := hide (fun k hk => by rw [hR.out, hO.out]; exact reach_at _ _ (by rw [← hn.out]; exact hk))
  rw [← hn.out, ← hO.out, ← hsc.out]
  rw [← hn.out] at hf hm2
  obtain ⟨W, hW, hwW, hWs, hx⟩ := boxes1 w #[.string f.name, .slice A1 f.params.length k1, .int .i64 f.ret, .slice A2 n k2] 25
  have q0 : ∀ w', Below W.heap.size W w' → w'.cell? ⟨w.heap.size, 0, none⟩ = some (.string f.name) := hx 0 _ rfl
  have q1 : ∀ w', Below W.heap.size W w' → w'.cell? ⟨w.heap.size, 1, none⟩ = some (.slice A1 f.params.length k1) := hx 1 _ rfl
  have q2 : ∀ w', Below W.heap.size W w' → w'.cell? ⟨w.heap.size, 2, none⟩ = some (.int .i64 f.ret) := hx 2 _ rfl
  have q3 : ∀ w', Below W.heap.size W w' → w'.cell? ⟨w.heap.size, 3, none⟩ = some (.slice A2 n k2) := hx 3 _ rfl
  clear hx
  have hws : w.heap.size ≤ W.heap.size := by omega
  replace hWs := hide hWs
  have hself := Below.refl W.heap.size W
  have hF : Hid (∀ w', Below W.heap.size W w' → RFun.rep w' w'.heap.size [.string f.name, .slice A1 f.params.length k1, .int .i64 f.ret, .slice A2 n k2] f) := hide (fun w' h => RFun.later hf ((hwW.trans (h.mono hws)).mono hB) (Nat.le_trans hB (hwW.trans (h.mono hws)).size))
  have cI : Hid (∀ w', Below W.heap.size W w' → Calls Try.prog 51 #[f.v (.slice A1 f.params.length k1) (.slice A2 n k2)] w' (IdomPost sc O n w')) := hide (fun w' h => by
    have := idom_any f (.slice A1 f.params.length k1) (.slice A2 n k2) w' w'.heap.size (Nat.le_refl _) (hF.out w' h) hs
    rwa [← hn.out, ← hO.out, ← hsc.out] at this)
  have cR : Hid (∀ w', Below W.heap.size W w' → Calls Try.prog 24 #[f.v (.slice A1 f.params.length k1) (.slice A2 n k2)] w' (ReachPost n R w')) := hide (fun w' h => by
    have := reach_any f (.slice A1 f.params.length k1) (.slice A2 n k2) w' w'.heap.size (Nat.le_refl _) (hF.out w' h) hs
    rwa [← hn.out, ← hR.out] at this)
  rw [← hn.out, ← hsc.out, ← hP.out] at hPw
  replace hs := hide hs
  replace hf := hide hf
  replace hwW := hide hwW
  rw [← hP.out]
  obtain ⟨i0, hi0, hz0, hz1, hz2⟩ := cinfo_parts cinfo_int
  obtain ⟨b0, hb0, hx0, hx1, hx2⟩ := cinfo_parts cinfo_ints
  replace hi0 := hide hi0
  replace hz0 := hide hz0
  replace hz1 := hide hz1
  replace hz2 := hide hz2
  replace hb0 := hide hb0
  replace hx0 := hide hx0
  replace hx1 := hide hx1
  replace hx2 := hide hx2
  have hpr0 := hide (rows_reads hPw hPl)
  replace hPw := hide hPw
  replace hW := hide hW
  go_enter Try.func38, Try.ntmps38
  go_upto_region 1 with (fail)
  rw [hW.out]
  clear hW
  go_region_held3 (fun w' => Below W.heap.size W w') (first | (with_reducible assumption) | exact hself.drew)
    (first
      | (go_at_call 51; refine (cI.out _ hself.drew).mono ?_; rintro e X1 ⟨gl, l, rfl, hI, hN, hb⟩; have hk1 : Below W.heap.size W X1 := hself.drew.trans (hb.mono (Nat.le_refl _)); have hI' := hide hI; have hN1 := hide hN; clear hI hN hb)
      | (go_at_call 24; refine (cR.out _ hk1).mono ?_; rintro e X ⟨gr, rfl, hL, hb⟩; have hk2 : Below W.heap.size W X := hk1.trans (hb.mono hk1.size); have hR4 := hide hL; have hN4 := hide (hN1.out.below hb); clear hL hb))
  have hll : l.length = n := hN4.out.len
  have hwXs : Hid (w.heap.size ≤ X.heap.size) := hide (Nat.le_trans hws hk2.size)
  have hwX : Hid (∀ w', Below X.heap.size X w' → Below w.heap.size w w') := hide (fun w' h => hwW.out.trans ((hk2.trans (h.mono hk2.size)).mono hws))
  have rup := hide hN4.out.reads
  have rre := hide (bool_reads hR4.out).2
  have hPm : Hid (∀ (k : Nat) p, P[k]? = some p → p.length ≤ 2000000 ∧ ∀ x, x ∈ p ↔ (0 ≤ x ∧ x < n ∧ (k : Int) ∈ sc x)) := hide (fun k p hk => by
    rw [hP.out] at hk
    have hm := fun x => predsL_mem hk x
    refine ⟨?_, hm⟩
    have := range_len n p ((predsL_sorted hk).imp fun h => by omega) (fun x hx => ⟨((hm x).1 hx).1, ((hm x).1 hx).2.1⟩)
    omega)
  have p3 : ∀ w', Below X.heap.size X w' → w'.cell? ⟨w.heap.size, 3, none⟩ = some (.slice A2 n k2) := fun w' h => q3 w' (hk2.trans (h.mono hk2.size))
  have hselfX := Below.refl X.heap.size X
  clear hN1 hk1 hk2 hN4 hR4 cI cR q0 q1 q2 q3 hself
  go_wp2_with (at_make; refine wpList_make_full _ rfl (.tmp 17) (.tmp 17) _ rfl X.heap.size 22 b0 _ 1 Try.underlying36 hb0.out hx0.out hx1.out .i64 .i64 n n n rfl rfl rfl rfl ?c1 ?c2 (Nat.le_refl _) ?_)
  case c1 => rw [hx2.out]; omega
  case c2 => unfold maxLen; omega
  intro w1 hown1 hg1
  have hbel1 := below_grown0 hg1
  have hmk1 : Hid (∃ cs, OwnL w1 X.heap.size none (.slice (some ⟨X.heap.size, 0, none⟩) n n) (rU (latF sc O P) n 0 []) cs) := hide ⟨_, by
    rw [rU_start]
    exact OwnL.start (made_rows hown1)⟩
  clear hg1 hown1 hselfX
  go_wp2
  go_loopw [21] (fun j wr => ∃ a : Nat, j = .int .i64 a ∧ a ≤ n ∧ Hid (∃ cs, OwnL wr X.heap.size none (.slice (some ⟨X.heap.size, 0, none⟩) n n) (rU (latF sc O P) n a []) cs) ∧ Below X.heap.size X wr) (fun i _ => n - (intOf i).toNat)
  case atStart => exact ⟨0, rfl, Nat.zero_le _, hmk1, hbel1⟩
  case round =>
    clear hmk1 hbel1
    rename World => V0
    obtain ⟨a, rfl, ha, hrow0, hbel0⟩ := hrel
    by_cases hlta : a < n
    · have hai : (a : Int) < (n : Int) := by omega
      obtain ⟨p, hp⟩ := get_ex (l := P) (k := a) (by omega)
      obtain ⟨Ap, Cp, rp, rpx⟩ := hpr0.out a p hp.out
      obtain ⟨hpl, hpm⟩ := hPm.out a p hp.out
      have hPe := hide (latP_end (sc := sc) (o := O) hp.out)
      replace hpm := hide hpm
      replace rpx := hide rpx
      have rp0 := rp V0 (hwX.out V0 hbel0)
      obtain ⟨m, hm⟩ : ∃ m, Hid (m = p.length) := ⟨_, hide rfl⟩
      rw [← hm.out] at rp0 hpl hPe
      clear rp
      have hrow00 : Hid (∃ cs, OwnL V0 X.heap.size none (.slice (some ⟨X.heap.size, 0, none⟩) n n) (rU (latF sc O P) n a (latP sc O p a 0)) cs) := hide (by simpa [latP] using hrow0.out)
      go_wp2
      go_loopw [29] (fun j wr => ∃ i : Nat, j = .int .i64 i ∧ i ≤ m ∧ Hid (∃ cs, OwnL wr X.heap.size none (.slice (some ⟨X.heap.size, 0, none⟩) n n) (rU (latF sc O P) n a (latP sc O p a i)) cs) ∧ Below X.heap.size X wr) (fun i _ => m - (intOf i).toNat)
      case atStart => exact ⟨0, rfl, Nat.zero_le _, hrow00, hbel0⟩
      case round =>
        clear hrow00 hrow0 hbel0 rp0
        rename World => V
        obtain ⟨i, rfl, hi, hrow, hbel⟩ := hrel
        by_cases hlti : i < m
        · have hii : (i : Int) < (m : Int) := by omega
          obtain ⟨x0, hx0'⟩ := get_ex (l := p) (k := i) (by rw [← hm.out]; exact hlti)
          obtain ⟨g5, rfl, rx⟩ := rpx.out (by rw [← hm.out]; omega)
          have rx0 := rx i _ hx0'.out V (hwX.out V hbel)
          clear rx
          obtain ⟨hm1', hm2'', -⟩ := (hpm.out x0).1 (List.mem_of_getElem? hx0'.out)
          obtain ⟨y0, rfl⟩ := Int.eq_ofNat_of_zero_le hm1'
          have hy0 : y0 < n := by omega
          have rre0 := rre.out y0 _ (hRat.out y0 hy0) V hbel
          have rre1 := rre.out a _ (hRat.out a hlta) V hbel
          have hstep := latP_step (sc := sc) (o := O) (h := a) hx0'.out
          by_cases hboth : (a : Int) ∈ O ∧ (y0 : Int) ∈ O
          · rw [decide_eq_true hboth.2] at rre0
            rw [decide_eq_true hboth.1] at rre1
            obtain ⟨d, hd⟩ : ∃ d, Hid (domB sc O a y0 = d) := ⟨_, hide rfl⟩
            have cA := hide (labove_any hI'.out hok.out (by omega) a y0 hboth.1 hboth.2 gl V (fun k x hk => rup.out k x hk V hbel))
            rw [hd.out] at cA hstep
            replace hboth := hide hboth
            cases d with
            | true =>
              obtain ⟨cs, hcs⟩ := hrow.out
              obtain ⟨r, hre⟩ : ∃ r, Hid (r = latP sc O p a i) := ⟨_, hide rfl⟩
              rw [← hre.out] at hcs hstep
              have hr : Hid ((rU (latF sc O P) n a r)[a]? = some r) := hide (rU_self hlta)
              obtain ⟨c, hc, hcp⟩ := hcs.at_ hr.out
              obtain ⟨Ar, kr, rfl⟩ := row_form hcp.row
              have hrl : r.length ≤ 2000000 := by have := latP_len (sc := sc) (o := O) (p := p) (h := a) (i := i); rw [hre.out]; have := hm.out; omega
              have hrw := hcs.row
              rw [rU_len] at hrw
              have r1 : V.cell? ⟨X.heap.size, a, none⟩ = some (.slice Ar r.length kr) := by rw [World.ownsRow.cellAt hrw a (by omega)]; exact hc
              have hbI : Hid (I64 y0) := hide (i64_mk (by omega) (by omega))
              have hnx : Hid ((rU (latF sc O P) n a r).set a (r ++ [(y0 : Int)]) = rU (latF sc O P) n a (latP sc O p a (i + 1))) := hide (by rw [rU_push hlta, hstep, if_pos rfl])
              replace hstep := hide hstep
              replace hrw := hide hrw
              replace hcp := hide hcp
              replace hcs := hide hcs
              replace hc := hide hc
              clear hrow
              have hbs := hbel.size
              go_wp2_with (first
                | (go_at_call 62; refine cA.out.mono ?_; rintro e V2 ⟨rfl, hV2⟩; replace hV2 := hV2.symm; subst hV2)
                | (at_builtin
                   refine wpList_append_lies _ rfl (.tmp 54) (.tmp 56) _ rfl X.heap.size 3 i0 _ 1 8 Try.underlying22 hi0.out hz0.out hz1.out hz2.out rfl (by omega) (.slice Ar r.length kr) _ _ rfl (hcp.out.row.alloc _) ⟨V.heap.size, 0, none⟩ 1 1 [.int .i64 y0] rfl rfl ?c1 ?c2 (by omega) ?c3 ?c4 ?c5 (V.heap.size + 1) ?c6 ?_
                   case c1 => exact World.news_of_block (cs := #[.int .i64 y0]) (t := 3) (fr := (0, 0)) (heap_alloc_new V _)
                   case c2 => simp [Value.oneCell']
                   case c3 => unfold maxLen; omega
                   case c4 => omega
                   case c5 => first | (simp; omega) | simp | omega
                   case c6 => simp
                   intro gq cq w1 hown1 hg1 hgq hlt1
                   have hbw1 : Below X.heap.size X w1 := (hbel.alloc hbs _).grown hg1 (by simp; omega) (fun k hk => (row_lt hcp.out.row hk).1)
                   have hbut := But.grown hcp.out.row hg1
                   have hL := hide (OwnL.app hcs.out hr.out hc.out hbI.out (fun k hk => by cases hk) hown1 hg1 hgq (rU_len ..).symm)
                   have hrw1 := hbut.row (by decide) hrw.out
                   have fz1 : w1.frozen? ⟨X.heap.size, a, none⟩ = false := World.ownsRow.frozenAt hrw1 a
                   have rz1 : w1.cell? ⟨X.heap.size, a, none⟩ = some (.slice Ar r.length kr) := by rw [World.ownsRow.cellAt hrw1 a (by omega)]; exact hc.out
                   have hbw2 := hide (hbw1.setCell (p := ⟨X.heap.size, a, none⟩) (Nat.le_refl _) (.slice (some ⟨gq, 0, none⟩) (r.length + 1) cq))
                   replace hrw1 := hide hrw1
                   replace hown1 := hide hown1
                   replace hg1 := hide hg1
                   replace hbut := hide hbut
                   replace hgq := hide hgq
                   replace hlt1 := hide hlt1))
              go_roundw
              case rel => exact ⟨i + 1, by go_num, hlti, hide ⟨_, by have := hL.out; rwa [hnx.out] at this⟩, hbw2.out⟩
              case measure => simp [intOf]; omega
            | false =>
              have hnx : Hid (latP sc O p a (i + 1) = latP sc O p a i) := hide (by rw [hstep]; simp)
              replace hstep := hide hstep
              have hrow2 : Hid (∃ cs, OwnL V X.heap.size none (.slice (some ⟨X.heap.size, 0, none⟩) n n) (rU (latF sc O P) n a (latP sc O p a (i + 1))) cs) := hide (by rw [hnx.out]; exact hrow.out)
              go_wp2_with (go_at_call 62; refine cA.out.mono ?_; rintro e V2 ⟨rfl, hV2⟩; replace hV2 := hV2.symm; subst hV2)
              go_roundw
              case rel => exact ⟨i + 1, by go_num, hlti, hrow2, hbel⟩
              case measure => simp [intOf]; omega
          · have hno : domB sc O a y0 = false := by rw [← Bool.not_eq_true, domB_iff]; exact fun h => hboth ⟨h.1, h.2.1⟩
            have hnx : Hid (latP sc O p a (i + 1) = latP sc O p a i) := hide (by rw [hstep, hno]; simp)
            have hrow2 : Hid (∃ cs, OwnL V X.heap.size none (.slice (some ⟨X.heap.size, 0, none⟩) n n) (rU (latF sc O P) n a (latP sc O p a (i + 1))) cs) := hide (by rw [hnx.out]; exact hrow.out)
            replace hstep := hide hstep
            replace hno := hide hno
            by_cases haO : (a : Int) ∈ O
            · rw [decide_eq_false (fun h => hboth ⟨haO, h⟩)] at rre0
              rw [decide_eq_true haO] at rre1
              replace hboth := hide hboth
              replace haO := hide haO
              go_wp2
              go_roundw
              case rel => exact ⟨i + 1, by go_num, hlti, hrow2, hbel⟩
              case measure => simp [intOf]; omega
            · rw [decide_eq_false haO] at rre1
              replace hboth := hide hboth
              replace haO := hide haO
              clear rre0
              go_wp2
              go_roundw
              case rel => exact ⟨i + 1, by go_num, hlti, hrow2, hbel⟩
              case measure => simp [intOf]; omega
        · obtain rfl : i = m := by omega
          have hrow2 : Hid (∃ cs, OwnL V X.heap.size none (.slice (some ⟨X.heap.size, 0, none⟩) n n) (rU (latF sc O P) n (a + 1) []) cs) := hide (by rw [← rU_next, ← hPe.out]; exact hrow.out)
          go_wp2
          go_roundw
          case rel => exact ⟨a + 1, by go_num, hlta, hrow2, hbel⟩
          case measure => simp [intOf]; omega
    · obtain rfl : a = n := by omega
      obtain ⟨cs, h⟩ := hrow0.out
      rw [rU_end] at h
      have hfin : Hid (OwnL V0 w.heap.size none (.slice (some ⟨X.heap.size, 0, none⟩) a a) (latL sc O P a) cs) := hide (h.mono hwXs.out)
      have hw := hide (hwX.out V0 hbel0)
      replace h := hide h
      go_wp2
      go_ret
      exact ⟨X.heap.size, cs, rfl, hfin.out, hw.out⟩
end Go.Proofs.Ytidjaohlaljmpaa
