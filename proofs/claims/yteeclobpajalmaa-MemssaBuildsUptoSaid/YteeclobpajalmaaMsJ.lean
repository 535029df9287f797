/- memssa.Ends, memssa.Build. No condition but sizes. -/
import Derived.Test.YteeclobpajalmaaMsF
import Derived.Test.YteeclobpajalmaaMsI
namespace Go.Proofs.Yteeclobpajalmaa
open Go.RowKit
set_option linter.unusedSimpArgs false
set_option linter.unusedVariables false

/-- the function's blocks that have a phi -/
noncomputable def phF (f : Fun) : Nat → Bool := phiB (startB f.blocks (orderF f.blocks)) (frB (succsF f.blocks) (orderF f.blocks))
def EndsPost (f : Fun) (H : Nat → Bool) (O : List Int) (sc : Int → List Int) (n : Nat) (w : World) (e : Ending) (w' : World) : Prop :=
  ∃ g l, e = .returned (.slice (some ⟨g, 0, none⟩) n n) ∧ (0 < n → IdomOk sc O n l) ∧ OwnN w' w.heap.size g n (endsL (laidA f.blocks H O n) l O n) ∧ Below w.heap.size w w'
theorem OwnAc.monoi {w : World} {B Bi Bi' : Nat} {v : Value} {ls : List Ac} {es : List AcV} (h : OwnAc w B Bi v ls es) (hb : Bi' ≤ Bi) : OwnAc w B Bi' v ls es :=
  ⟨h.len, h.row, fun i x e hx he => by
    obtain ⟨h1, h2⟩ := h.inn i x e hx he
    exact ⟨h1.mono hb, h2.mono hb⟩, h.apart, h.self⟩
theorem OwnN.as_row {w : World} {B g n : Nat} {l : List Int} (h : OwnN w B g n l) : OwnN w B g n l := h
set_option maxRecDepth 100000 in
set_option maxHeartbeats 12800000 in
theorem mends_any (f : Fun) (c1 c2 : Value) (w : World) (B : Nat) (hB : B ≤ w.heap.size) (hf : RFun.rep w B [.string f.name, c1, .int .i64 f.ret, c2] f) (hsz : funSz f ≤ 2000000) :
    Calls Try.prog 15 #[f.v c1 c2] w (EndsPost f (phF f) (orderF f.blocks) (succsF f.blocks) f.blocks.length w) := by
  have hs : Small f := small_of hsz
  unfold phF
  obtain ⟨hp, hb⟩ := fun_open (RFun.later hf (Below.refl _ _) hB)
  obtain ⟨A1, k1, h1, -, -⟩ := Rp.slice1_open hp
  obtain ⟨A2, k2, h2, hm2, -⟩ := Rp.slice1_open hb
  cases h1; cases h2
  clear hp hb
  obtain ⟨n, hn⟩ : ∃ n, Hid (n = f.blocks.length) := ⟨_, hide rfl⟩
  have hnle : n ≤ 2000000 := by rw [hn.out]; exact hs.blocks
  obtain ⟨O, hO⟩ : ∃ O, Hid (O = orderF f.blocks) := ⟨_, hide rfl⟩
  obtain ⟨sc, hsc⟩ : ∃ sc, Hid (sc = succsF f.blocks) := ⟨_, hide rfl⟩
  obtain ⟨R, hR⟩ : ∃ R, Hid (R = reachF f.blocks) := ⟨_, hide rfl⟩
  obtain ⟨P, hP⟩ : ∃ P, Hid (P = predsL sc n) := ⟨_, hide rfl⟩
  have hPl : P.length = n := by rw [hP.out, predsL_len]
  have hRl : R.length = n := by rw [hR.out, hn.out, reach_len]
  have hsok : Hid (∀ b, SuccOk n (sc b)) := hide (fun b => by rw [hsc.out, hn.out]; exact succsF_ok _ _)
  have hok : Hid (OrderOk n sc O) := hide (by rw [hO.out, hn.out, hsc.out]; exact order_ok _)
  have hol : O.length ≤ n := by rw [hO.out, hn.out]; exact order_len _
  have hRat : Hid (∀ k : Nat, k < n → R[k]? = some (decide ((k : Int) ∈ O))) := hide (fun k hk => by rw [hR.out, hO.out]; exact reach_at _ _ (by rw [← hn.out]; exact hk))
  rw [← hn.out, ← hO.out, ← hsc.out]
  rw [← hn.out] at hf hm2
  obtain ⟨W, hW, hwW, hWs, hx⟩ := boxes1 w #[.string f.name, .slice A1 f.params.length k1, .int .i64 f.ret, .slice A2 n k2] 25
  have q0 : ∀ w', Below W.heap.size W w' → w'.cell? ⟨w.heap.size, 0, none⟩ = some (.string f.name) := hx 0 _ rfl
  have q1 : ∀ w', Below W.heap.size W w' → w'.cell? ⟨w.heap.size, 1, none⟩ = some (.slice A1 f.params.length k1) := hx 1 _ rfl
  have q2 : ∀ w', Below W.heap.size W w' → w'.cell? ⟨w.heap.size, 2, none⟩ = some (.int .i64 f.ret) := hx 2 _ rfl
  have q3 : ∀ w', Below W.heap.size W w' → w'.cell? ⟨w.heap.size, 3, none⟩ = some (.slice A2 n k2) := hx 3 _ rfl
  clear hx
  have hws : w.heap.size ≤ W.heap.size := by omega
  replace hWs := hide hWs
  have hself := Below.refl W.heap.size W
  have hF : Hid (∀ w', Below W.heap.size W w' → RFun.rep w' w'.heap.size [.string f.name, .slice A1 f.params.length k1, .int .i64 f.ret, .slice A2 n k2] f) := hide (fun w' h => RFun.later hf ((hwW.trans (h.mono hws)).mono hB) (Nat.le_trans hB (hwW.trans (h.mono hws)).size))
  have cP : Hid (∀ w', Below W.heap.size W w' → Calls Try.prog 36 #[f.v (.slice A1 f.params.length k1) (.slice A2 n k2)] w' (PredPost n P w')) := hide (fun w' h => by
    have := preds_any f (.slice A1 f.params.length k1) (.slice A2 n k2) w' w'.heap.size (Nat.le_refl _) (hF.out w' h) hs
    rwa [← hn.out, ← hsc.out, ← hP.out] at this)
  have cLy : Hid (∀ w', Below W.heap.size W w' → Calls Try.prog 34 #[f.v (.slice A1 f.params.length k1) (.slice A2 n k2)] w' (LayPost f (.slice A1 f.params.length k1) (.slice A2 n k2) f.blocks (phiB (startB f.blocks O) (frB sc O)) O n w')) := hide (fun w' h => by
    have := lay_any f (.slice A1 f.params.length k1) (.slice A2 n k2) w' w'.heap.size (Nat.le_refl _) (hF.out w' h) hsz
    rwa [← hn.out, ← hO.out, ← hsc.out] at this)
  have hfB : Hid (∀ w', Below W.heap.size W w' → RFun.rep w' W.heap.size [.string f.name, .slice A1 f.params.length k1, .int .i64 f.ret, .slice A2 n k2] f) := hide (fun w' h => RFun.later hf ((hwW.trans (h.mono hws)).mono hB) (Nat.le_trans hB hws))
  replace hs := hide hs
  replace hf := hide hf
  replace hwW := hide hwW
  obtain ⟨H, hH⟩ : ∃ H, Hid (H = phiB (startB f.blocks O) (frB sc O)) := ⟨_, hide rfl⟩
  rw [← hH.out] at cLy ⊢
  replace hW := hide hW
  go_enter Try.func15, Try.ntmps15
  go_upto_region 1 with (fail)
  rw [hW.out]
  clear hW
  go_wp2_with (fail)
  refine (cLy.out _ hself).mono ?_
  rintro e X1 ⟨Bo, gB, gp, gf, ge, vO, Lp, Lf, Le, rfl, hb, hlk, hb1⟩
  have p3 := q3 X1 hb1
  by_cases hn0 : 0 < n
  · have hni : (n : Int) > 0 := by omega
    rw [if_neg (by omega)] at hb
    have cS := hide (stand_any f H O sc P n hn hO hsc A1 A2 k1 k2 X1 W.heap.size Bo gB gp gf ge vO Lp Lf Le hb1.size (hfB.out X1 hb1) hsz hn0 hb (hlk hn0))
    replace hb := hide hb
    replace hlk := hide hlk
    go_wp2_with (fail)
    refine cS.out.mono ?_
    rintro e X2 ⟨l, es, rfl, hI, hb2, hbw2⟩
    obtain ⟨-, -, -, -, -, -, -, y7⟩ := hb2.cells
    have hbW := hb1.trans hbw2
    have hres : Hid (OwnN X2 w.heap.size ge n (endsL (laidA f.blocks H O n) l O n)) := hide (hb2.e.mono hws)
    replace hb2 := hide hb2
    have hI' := hide hI
    have hfin := hide (hwW.out.trans (hbW.mono hws))
    clear hI p3 q0 q1 q2 q3
    go_wp2
    go_ret
    exact ⟨ge, l, rfl, fun _ => hI'.out, hres.out, hfin.out⟩
  · have hni : ¬ (n : Int) > 0 := by omega
    obtain ⟨-, -, -, -, -, -, -, y7⟩ := hb.cells
    have hres : Hid (OwnN X1 w.heap.size ge n (endsL (laidA f.blocks H O n) [] O n)) := hide (by
      have h1 := hb.e.mono hws
      have h2 := h1.len
      have e1 : Le = [] := List.eq_nil_of_length_eq_zero (by omega)
      have e2 : endsL (laidA f.blocks H O n) [] O n = [] := List.eq_nil_of_length_eq_zero (by unfold endsL; simp; omega)
      rw [e2, ← e1]
      exact h1)
    replace hb := hide hb
    have hno : Hid (0 < n → IdomOk sc O n []) := hide (fun h => absurd h hn0)
    have hfin := hide (hwW.out.trans (hb1.mono hws))
    replace hn0 := hide hn0
    clear hlk
    go_wp2
    go_ret
    exact ⟨ge, [], rfl, hno.out, hres.out, hfin.out⟩
end Go.Proofs.Yteeclobpajalmaa
