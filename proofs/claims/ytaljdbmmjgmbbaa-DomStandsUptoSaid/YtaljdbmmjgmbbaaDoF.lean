/- dom.above, dom.Dominates. No condition but sizes. -/
import Derived.Test.YtaljdbmmjgmbbaaDoD
import Derived.Test.YtaljdbmmjgmbbaaDoE
namespace Go.Proofs.Ytaljdbmmjgmbbaa
open Go.RowKit
set_option linter.unusedSimpArgs false
set_option linter.unusedVariables false

def SomeB (p : Prop) (w : World) (e : Ending) (w' : World) : Prop := ∃ r : Bool, e = .returned (.bool r) ∧ (r = true ↔ p) ∧ Below w.heap.size w w'
theorem topF_zero (l : List Int) : topF l 0 = 0 := if_pos rfl
theorem topF_of {l : List Int} {k : Nat} {x : Int} (h0 : k ≠ 0) (h : l[k]? = some x) : topF l k = x := by unfold topF; rw [if_neg (by omega)]; exact upF_some h
theorem anc_zero {l : List Int} {a : Int} : Anc (topF l) a 0 ↔ a = 0 := by
  constructor
  · intro h
    cases h with
    | refl => rfl
    | up h0 _ => exact (h0 rfl).elim
  · rintro rfl; exact .refl
theorem anc_up {l : List Int} {a : Int} {k : Nat} {x : Int} (h0 : k ≠ 0) (h : l[k]? = some x) (hne : (k : Int) ≠ a) : Anc (topF l) a k ↔ Anc (topF l) a x := by
  have e := topF_of h0 h
  constructor
  · intro h
    cases h with
    | refl => exact (hne rfl).elim
    | up _ h1 => rwa [e] at h1
  · intro h1
    refine .up (by omega) ?_
    rwa [e]
set_option maxRecDepth 100000 in
set_option maxHeartbeats 3200000 in
theorem above_any (sc : Int → List Int) (o l : List Int) (n g : Nat) (a b : Int) (w : World) (hn9 : n ≤ 2000000) (I : IdomOk sc o n l) (O : OrderOk n sc o) (ha : 0 ≤ a) (hb : b ∈ o)
    (hu : ∀ (k : Nat) x, l[k]? = some x → ∀ w', Below w.heap.size w w' → w'.cell? ⟨g, k, none⟩ = some (.int .i64 x)) :
    Calls Try.prog 76 #[.slice (some ⟨g, 0, none⟩) n n, .int .i64 a, .int .i64 b] w (SomeB (Anc (topF l) a b) w) := by
  have hself := Below.refl w.heap.size w
  have hll := I.len
  replace I := hide I
  replace O := hide O
  replace hb := hide hb
  replace hu := hide hu
  go_enter Try.func76, Try.ntmps76
  go_wp2
  go_loopw [2] (fun s wr => ∃ y : Int, s = .int .i64 y ∧ Hid (y = -1 ∨ y ∈ o) ∧ Hid (Anc (topF l) a b ↔ (0 ≤ y ∧ Anc (topF l) a y)) ∧ Below w.heap.size w wr) (fun s _ => if intOf s < 0 then 0 else o.idxOf (intOf s) + 1)
  case atStart => exact ⟨b, rfl, hide (.inr hb.out), hide ⟨fun h => ⟨(O.out.bound b hb.out).1, h⟩, fun h => h.2⟩, hself⟩
  case round =>
    obtain ⟨y, rfl, hy, hiff, hbel⟩ := hrel
    by_cases hy0 : y = -1
    · subst hy0
      have hc : ((-1 : Int) == a) = false := by simp; omega
      have hfin : Hid (false = true ↔ Anc (topF l) a b) := hide ⟨(fun h => by cases h), fun h => by have := (hiff.out.1 h).1; omega⟩
      go_wp2
      go_ret
      exact ⟨_, rfl, hfin.out, hbel⟩
    · have hyo : Hid (y ∈ o) := hide (hy.out.resolve_left hy0)
      obtain ⟨hp0, hp9⟩ := O.out.bound y hyo.out
      obtain ⟨yn, hyn⟩ := Int.eq_ofNat_of_zero_le hp0
      subst hyn
      by_cases hya : (yn : Int) = a
      · have hc : ((yn : Int) != a) = false := by simp [hya]
        have hc2 : ((yn : Int) == a) = true := by simp [hya]
        have hfin : Hid (Anc (topF l) a b) := hide (hiff.out.2 ⟨hp0, by rw [hya]; exact .refl⟩)
        replace hya := hide hya
        go_wp2
        go_ret
        exact ⟨_, rfl, ⟨fun _ => hfin.out, fun _ => rfl⟩, hbel⟩
      · have hc : ((yn : Int) != a) = true := by simp [hya]
        obtain ⟨x, hx⟩ := get_ex (l := l) (k := yn) (by omega)
        have rx := hu.out yn x hx.out _ hbel
        have hpos : Hid (¬ ((yn : Int) < 0)) := hide (by omega)
        by_cases hz : yn = 0
        · have hx1 : x = -1 := by have h1 := I.out.none_ yn (by omega) (.inr hz); rw [hx.out] at h1; exact Option.some.inj h1
          subst hx1
          have hi2 : Hid (Anc (topF l) a b ↔ (0 ≤ (-1 : Int) ∧ Anc (topF l) a (-1))) := hide ⟨fun h => by
            have h1 := (hiff.out.1 h).2
            rw [hz] at h1
            have h2 := anc_zero.1 h1
            exact (hya (by rw [h2, hz]; rfl)).elim, fun h => by omega⟩
          replace hya := hide hya
          replace hz := hide hz
          go_wp2
          go_roundw
          case rel => exact ⟨-1, rfl, hide (.inl rfl), hi2, hbel⟩
          case measure =>
            show 0 < (if (yn : Int) < 0 then 0 else o.idxOf (yn : Int) + 1)
            rw [if_neg hpos.out]; omega
        · obtain ⟨u, h3, h4, h5, h6, -⟩ := I.out.some_ yn (by omega) hyo.out hz
          have hxu : x = u := by have := hx.out; rw [h3] at this; exact (Option.some.inj this).symm
          subst hxu
          have hx0 := (O.out.bound x h4).1
          have hi2 : Hid (Anc (topF l) a b ↔ (0 ≤ x ∧ Anc (topF l) a x)) := hide (hiff.out.trans ⟨fun h => ⟨hx0, (anc_up hz h3 hya).1 h.2⟩, fun h => ⟨hp0, (anc_up hz h3 hya).2 h.2⟩⟩)
          have hm : Hid ((if x < 0 then 0 else o.idxOf x + 1) < (if (yn : Int) < 0 then 0 else o.idxOf (yn : Int) + 1)) := hide (by rw [if_neg (by omega), if_neg hpos.out]; omega)
          replace hya := hide hya
          replace hz := hide hz
          replace h4 := hide h4
          clear h3 h5 h6
          go_wp2
          go_roundw
          case rel => exact ⟨x, rfl, hide (.inr h4.out), hi2, hbel⟩
          case measure => exact hm.out

def Dom (sc : Int → List Int) (o : List Int) (a b : Int) : Prop := a ∈ o ∧ b ∈ o ∧ ¬ RchW sc a b
def DomPost (sc : Int → List Int) (o : List Int) (a b : Int) (w : World) : Ending → World → Prop := SomeB (Dom sc o a b) w
set_option maxRecDepth 100000 in
set_option maxHeartbeats 6400000 in
theorem dominates_any (f : Fun) (a b : Int) (c1 c2 : Value) (w : World) (B : Nat) (hB : B ≤ w.heap.size) (hf : RFun.rep w B [.string f.name, c1, .int .i64 f.ret, c2] f) (hs : Small f) :
    Calls Try.prog 37 #[f.v c1 c2, .int .i64 a, .int .i64 b] w (DomPost (succsF f.blocks) (orderF f.blocks) a b w) := by
  obtain ⟨hp, hb⟩ := fun_open (RFun.later hf (Below.refl _ _) hB)
  obtain ⟨A1, k1, h1, -, -⟩ := Rp.slice1_open hp
  obtain ⟨A2, k2, h2, hm2, -⟩ := Rp.slice1_open hb
  cases h1; cases h2
  clear hp hb
  obtain ⟨n, hn⟩ : ∃ n, Hid (n = f.blocks.length) := ⟨_, hide rfl⟩
  have hnle : n ≤ 2000000 := by rw [hn.out]; exact hs.blocks
  obtain ⟨O, hO⟩ : ∃ O, Hid (O = orderF f.blocks) := ⟨_, hide rfl⟩
  obtain ⟨sc, hsc⟩ : ∃ sc, Hid (sc = succsF f.blocks) := ⟨_, hide rfl⟩
  obtain ⟨R, hR⟩ : ∃ R, Hid (R = reachF f.blocks) := ⟨_, hide rfl⟩
  obtain ⟨P, hP⟩ : ∃ P, Hid (P = predsL sc n) := ⟨_, hide rfl⟩
  have hPl : P.length = n := by rw [hP.out, predsL_len]
  have hRl : R.length = n := by rw [hR.out, hn.out, reach_len]
  have hsok : Hid (∀ b, SuccOk n (sc b)) := hide (fun b => by rw [hsc.out, hn.out]; exact succsF_ok _ _)
  have hok : Hid (OrderOk n sc O) := hide (by rw [hO.out, hn.out, hsc.out]; exact order_ok _)
  have hol : O.length ≤ n := by rw [hO.out, hn.out]; exact order_len _
  have hRat : Hid (∀ k : Nat, k < n → R[k]? = some (decide ((k : Int) ∈ O))) := hide (fun k hk => by rw [hR.out, hO.out]; exact reach_at _ _ (by rw [← hn.out]; exact hk))
  rw [← hn.out, ← hO.out, ← hsc.out]
  rw [← hn.out] at hf hm2
  obtain ⟨W, hW, hwW, hWs, hx⟩ := boxes1 w #[.string f.name, .slice A1 f.params.length k1, .int .i64 f.ret, .slice A2 n k2] 25
  have q0 : ∀ w', Below W.heap.size W w' → w'.cell? ⟨w.heap.size, 0, none⟩ = some (.string f.name) := hx 0 _ rfl
  have q1 : ∀ w', Below W.heap.size W w' → w'.cell? ⟨w.heap.size, 1, none⟩ = some (.slice A1 f.params.length k1) := hx 1 _ rfl
  have q2 : ∀ w', Below W.heap.size W w' → w'.cell? ⟨w.heap.size, 2, none⟩ = some (.int .i64 f.ret) := hx 2 _ rfl
  have q3 : ∀ w', Below W.heap.size W w' → w'.cell? ⟨w.heap.size, 3, none⟩ = some (.slice A2 n k2) := hx 3 _ rfl
  clear hx
  have hws : w.heap.size ≤ W.heap.size := by omega
  replace hWs := hide hWs
  have hself := Below.refl W.heap.size W
  have hF : Hid (∀ w', Below W.heap.size W w' → RFun.rep w' w'.heap.size [.string f.name, .slice A1 f.params.length k1, .int .i64 f.ret, .slice A2 n k2] f) := hide (fun w' h => RFun.later hf ((hwW.trans (h.mono hws)).mono hB) (Nat.le_trans hB (hwW.trans (h.mono hws)).size))
  have cR : Hid (∀ w', Below W.heap.size W w' → Calls Try.prog 39 #[f.v (.slice A1 f.params.length k1) (.slice A2 n k2)] w' (ReachPost n R w')) := hide (fun w' h => by
    have := reach_any f (.slice A1 f.params.length k1) (.slice A2 n k2) w' w'.heap.size (Nat.le_refl _) (hF.out w' h) hs
    rwa [← hn.out, ← hR.out] at this)
  have cI : Hid (∀ w', Below W.heap.size W w' → Calls Try.prog 40 #[f.v (.slice A1 f.params.length k1) (.slice A2 n k2)] w' (IdomPost sc O n w')) := hide (fun w' h => by
    have := idom_any f (.slice A1 f.params.length k1) (.slice A2 n k2) w' w'.heap.size (Nat.le_refl _) (hF.out w' h) hs
    rwa [← hn.out, ← hO.out, ← hsc.out] at this)
  replace hs := hide hs
  replace hf := hide hf
  replace hwW := hide hwW
  have hOb : Hid (∀ x, x ∈ O → 0 ≤ x ∧ x < n) := hide hok.out.bound
  go_enter Try.func37, Try.ntmps37
  go_wp2_with (fail)
  refine (cR.out _ hself).mono ?_
  rintro e X ⟨gr, rfl, hR4, hb4⟩
  obtain ⟨-, hRr⟩ := bool_reads hR4
  replace hRr := hide hRr
  have hsX := hb4.size
  have hbX := hb4
  have hwX : Hid (Below w.heap.size w X) := hide (hwW.out.trans (hbX.mono hws))
  have hself9 := Below.refl X.heap.size X
  have no : ¬ Dom sc O a b → Hid (false = true ↔ Dom sc O a b) := fun h => hide ⟨(fun h => by cases h), fun h' => (h h').elim⟩
  replace no := hide no
  clear hR4 hb4 cR
  by_cases a0 : a < 0
  · have fin := no.out fun h => by have := hOb.out a h.1; omega
    go_wp2
    go_ret
    exact ⟨_, rfl, fin.out, hwX.out⟩
  by_cases b0 : b < 0
  · have fin := no.out fun h => by have := hOb.out b h.2.1; omega
    go_wp2
    go_ret
    exact ⟨_, rfl, fin.out, hwX.out⟩
  obtain ⟨an, hae⟩ := Int.eq_ofNat_of_zero_le (by omega : 0 ≤ a)
  subst hae
  obtain ⟨bn, hbe⟩ := Int.eq_ofNat_of_zero_le (by omega : 0 ≤ b)
  subst hbe
  by_cases a1 : n ≤ an
  · have fin := no.out fun h => by have := hOb.out _ h.1; omega
    have a2 : (an : Int) ≥ (n : Int) := by omega
    go_wp2
    go_ret
    exact ⟨_, rfl, fin.out, hwX.out⟩
  by_cases b1 : n ≤ bn
  · have fin := no.out fun h => by have := hOb.out _ h.2.1; omega
    have a2 : ¬ (an : Int) ≥ (n : Int) := by omega
    have b2 : (bn : Int) ≥ (n : Int) := by omega
    go_wp2
    go_ret
    exact ⟨_, rfl, fin.out, hwX.out⟩
  have a2 : ¬ (an : Int) ≥ (n : Int) := by omega
  have b2 : ¬ (bn : Int) ≥ (n : Int) := by omega
  have a3 : an < n := by omega
  have b3 : bn < n := by omega
  have ra := hRr.out an _ (hRat.out an a3) _ hself9
  have rb := hRr.out bn _ (hRat.out bn b3) _ hself9
  clear a0 b0 a1 b1
  by_cases am : (an : Int) ∈ O
  · by_cases bm : (bn : Int) ∈ O
    · rw [show decide ((an : Int) ∈ O) = true from decide_eq_true am] at ra
      rw [show decide ((bn : Int) ∈ O) = true from decide_eq_true bm] at rb
      replace am := hide am
      replace bm := hide bm
      go_wp2_with (fail)
      refine (cI.out _ hbX).mono ?_
      rintro e Y ⟨g, l, rfl, hI, hN, hb5⟩
      have hwY : Hid (Below w.heap.size w Y) := hide (hwX.out.trans (hb5.mono hwX.out.size))
      have cA : Hid (Calls Try.prog 76 #[.slice (some ⟨g, 0, none⟩) n n, .int .i64 an, .int .i64 bn] Y (SomeB (Anc (topF l) an bn) Y)) := hide (above_any sc O l n g an bn Y hnle hI hok.out (by omega) bm.out hN.reads)
      have hiff : Hid (Anc (topF l) an bn ↔ Dom sc O an bn) := hide ((hI.anc hok.out (by omega) bm.out).trans ⟨fun h => ⟨am.out, bm.out, h⟩, fun h => h.2.2⟩)
      clear hI hN hb5
      go_wp2_with (fail)
      refine cA.out.mono ?_
      rintro e Z ⟨r, rfl, hr, hb6⟩
      have hwZ : Hid (Below w.heap.size w Z) := hide (hwY.out.trans (hb6.mono hwY.out.size))
      have fin : Hid (r = true ↔ Dom sc O an bn) := hide (hr.trans hiff.out)
      clear hr hb6
      go_wp2
      go_ret
      exact ⟨_, rfl, fin.out, hwZ.out⟩
    · have fin := no.out fun h => bm h.2.1
      rw [show decide ((an : Int) ∈ O) = true from decide_eq_true am] at ra
      rw [show decide ((bn : Int) ∈ O) = false from decide_eq_false bm] at rb
      replace am := hide am
      replace bm := hide bm
      go_wp2
      go_ret
      exact ⟨_, rfl, fin.out, hwX.out⟩
  · have fin := no.out fun h => am h.1
    rw [show decide ((an : Int) ∈ O) = false from decide_eq_false am] at ra
    replace am := hide am
    clear rb
    go_wp2
    go_ret
    exact ⟨_, rfl, fin.out, hwX.out⟩
end Go.Proofs.Ytaljdbmmjgmbbaa
