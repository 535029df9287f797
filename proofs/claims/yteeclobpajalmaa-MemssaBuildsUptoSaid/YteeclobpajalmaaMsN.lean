/- lathelaw18.Long, lathelaw19.long; the fixed fact of lathelaw19.lives, the plain side. No condition but a bound on the function's size. | lathelaw19.lives. No condition. -/
import Derived.Test.YteeclobpajalmaaMsK
import Derived.Test.YteeclobpajalmaaGrNf
import Derived.Test.YteeclobpajalmaaDoG
import Derived.Test.YteeclobpajalmaaGrY
namespace Go.Proofs.Yteeclobpajalmaa
open Go.RowKit
set_option linter.unusedSimpArgs false
set_option linter.unusedVariables false

/-! the same, to be reckoned -/
def lastCc (L : List Ac) (b : Int) (m : Nat) : Bool := decide (0 < m) && match L[m]? with | some a => a.block == b && !(a.kind == 2) | none => false
def lastDc (L : List Ac) (b : Int) : Nat → Int
  | 0 => -1
  | m + 1 => if lastCc L b m then (m : Int) else lastDc L b m
theorem lastCc_iff {L : List Ac} {b : Int} {m : Nat} : lastCc L b m = true ↔ LastC L b m := by
  unfold lastCc LastC
  cases h : L[m]? with
  | none => simp
  | some a => simp
theorem lastDc_eq {L : List Ac} {b : Int} : ∀ m, lastD L b m = lastDc L b m
  | 0 => rfl
  | m + 1 => by
    rw [lastDc]
    by_cases h : LastC L b m
    · rw [lastD_hit h, if_pos (lastCc_iff.2 h)]
    · rw [lastD_skip h, if_neg (fun h' => h (lastCc_iff.1 h')), lastDc_eq m]
def endKc (L : List Ac) (l : List Int) : Nat → Nat → Int
  | 0, _ => -1
  | k + 1, b => if 0 ≤ lastDc L b L.length then lastDc L b L.length else if b = 0 then 0 else endKc L l k (l.getD b (-1)).toNat
theorem endKc_eq {L : List Ac} {l : List Int} : ∀ k b, endK L l k b = endKc L l k b
  | 0, _ => rfl
  | k + 1, b => by rw [endK, endKc, lastDc_eq, endKc_eq k]
theorem endFc_eq {L : List Ac} {l o : List Int} {b : Nat} : endF L l o b = endKc L l (o.idxOf (b : Int) + 1) b := endKc_eq _ _

def l19S : Ins := ⟨28, -1, 0, 0, 0, [], []⟩
def l19I : Ins := ⟨32, -1, 0, 0, 0, [], [1, 2]⟩
def l19J : Ins := ⟨31, -1, 0, 0, 0, [], [3]⟩
def l19L : Ins := ⟨27, 0, 0, 0, 0, [], []⟩
def l19R : Ins := ⟨33, -1, 0, 0, 0, [], []⟩
def l19B : List (List Ins) := [[l19S, l19I], [l19S, l19J], [l19J], [l19L, l19R]]
def l19F : Fun := ⟨⟨#[]⟩, [], 0, l19B⟩
theorem l19_tab : TabOk (succsF l19B) (orderF l19B) 4 (tabD (succsF l19B) 4) := tabD_ok (by decide) (succsF_ok l19B) (order_ok l19B) (by decide +kernel) (by decide +kernel)
theorem l19_dom (a b : Nat) (ha : a < 4) (hb : b < 4) : Dom (succsF l19B) (orderF l19B) a b ↔ tabD (succsF l19B) 4 a b = true := (l19_tab a b ha hb).symm
theorem l19_up {l : List Int} (I : IdomOk (succsF l19B) (orderF l19B) 4 l) : l = [-1, 0, 0, 0] := (I.eq (order_ok l19B) l19_tab).trans (by decide +kernel)
theorem l19_s (p : Int) : succsF l19B p = if p = 0 then [1, 2] else if p = 1 ∨ p = 2 then [3] else [] := by
  by_cases h0 : p = 0
  · subst h0; decide +kernel
  · by_cases h1 : p = 1
    · subst h1; decide +kernel
    · by_cases h2 : p = 2
      · subst h2; decide +kernel
      · by_cases h3 : p = 3
        · subst h3; decide +kernel
        · rw [if_neg h0, if_neg (by omega)]
          refine List.eq_nil_iff_forall_not_mem.2 fun t ht => ?_
          unfold succsF at ht
          split at ht
          · rename_i hp
            obtain ⟨k, rfl⟩ := Int.eq_ofNat_of_zero_le hp
            have hk : 4 ≤ k := by omega
            rw [show ((k : Nat) : Int).toNat = k from rfl] at ht
            have e : l19B[k]? = none := List.getElem?_eq_none hk
            simp [e, succsB, List.getD] at ht
          · cases ht
theorem l19_fr {b t : Nat} (h : frB (succsF l19B) (orderF l19B) b t = true) : t = 3 := by
  obtain ⟨p, h1, h2, h3⟩ := frB_iff.1 h
  have ht := (order_ok l19B).bound t (by
    have hp := h2.2.1
    exact ((order_ok l19B).mem t).2 ⟨by decide, .step (((order_ok l19B).mem p).1 hp).2 h1⟩)
  have hb := (order_ok l19B).bound b h2.1
  have e4 : l19B.length = 4 := rfl
  rw [e4] at ht hb
  rw [l19_s] at h1
  by_cases h0 : p = 0
  · subst h0
    rw [if_pos rfl] at h1
    have hbn : b < 4 := by omega
    have hd := (l19_dom b 0 hbn (by decide)).1 h2
    have hb0 : b = 0 := by
      rcases (show b = 0 ∨ b = 1 ∨ b = 2 ∨ b = 3 by omega) with rfl | rfl | rfl | rfl
      · rfl
      · exact absurd hd (by decide +kernel)
      · exact absurd hd (by decide +kernel)
      · exact absurd hd (by decide +kernel)
    subst hb0
    have ht2 : t = 1 ∨ t = 2 := by simp at h1; omega
    rcases h3 with h3 | h3
    · have : (0 : Int) = (t : Int) := h3
      omega
    · exfalso
      refine h3 ((l19_dom 0 t (by decide) (by omega)).2 ?_)
      rcases ht2 with rfl | rfl <;> decide +kernel
  · rw [if_neg h0] at h1
    split at h1
    · have := List.mem_singleton.1 h1; omega
    · cases h1
theorem l19_13 : frB (succsF l19B) (orderF l19B) 1 3 = true := frB_iff.2 ⟨1, by rw [l19_s]; simp, (l19_dom 1 1 (by decide) (by decide)).2 (by decide +kernel), .inr fun h => absurd ((l19_dom 1 3 (by decide) (by decide)).1 h) (by decide +kernel)⟩
noncomputable def l19H : Nat → Bool := phiB (startB l19B (orderF l19B)) (frB (succsF l19B) (orderF l19B))
theorem l19_in (b : Nat) (hb : b < 4) : (b : Int) ∈ orderF l19B := by
  refine ((l19_dom b b hb hb).2 ?_).1
  rcases (show b = 0 ∨ b = 1 ∨ b = 2 ∨ b = 3 by omega) with rfl | rfl | rfl | rfl <;> decide +kernel
theorem l19_H (t : Nat) : l19H t = (t == 3) := by
  rw [Bool.eq_iff_iff]
  unfold l19H
  rw [phiB_iff, beq_iff_eq]
  constructor
  · intro h
    cases h with
    | base _ h => exact l19_fr h
    | step _ h => exact l19_fr h
  · rintro rfl
    refine .base (b := 1) ?_ l19_13
    unfold startB
    rw [decide_eq_true (l19_in 1 (by decide))]
    rfl
theorem l19_laid : laidA l19B l19H (orderF l19B) 4 = [⟨0, 0, -1, [], []⟩, ⟨1, 0, 0, [], []⟩, ⟨1, 1, 0, [], []⟩, ⟨3, 3, -1, [], []⟩, ⟨2, 3, 0, [], []⟩] := by
  have h0 := blkA_in (H := l19H) (l19_in 0 (by decide)) (show l19B[0]? = some [l19S, l19I] from rfl)
  have h1 := blkA_in (H := l19H) (l19_in 1 (by decide)) (show l19B[1]? = some [l19S, l19J] from rfl)
  have h2 := blkA_in (H := l19H) (l19_in 2 (by decide)) (show l19B[2]? = some [l19J] from rfl)
  have h3 := blkA_in (H := l19H) (l19_in 3 (by decide)) (show l19B[3]? = some [l19L, l19R] from rfl)
  have p0 : phiA l19H 0 = [] := by unfold phiA; rw [l19_H]; rfl
  have p1 : phiA l19H 1 = [] := by unfold phiA; rw [l19_H]; rfl
  have p2 : phiA l19H 2 = [] := by unfold phiA; rw [l19_H]; rfl
  have p3 : phiA l19H 3 = [⟨3, (3 : Nat), -1, [], []⟩] := by unfold phiA; rw [l19_H]; rfl
  show [_] ++ blkA l19B l19H (orderF l19B) 0 ++ blkA l19B l19H (orderF l19B) 1 ++ blkA l19B l19H (orderF l19B) 2 ++ blkA l19B l19H (orderF l19B) 3 = _
  rw [h0, h1, h2, h3, p0, p1, p2, p3]
  rfl
theorem l19_P : predsL (succsF l19B) 4 = [[], [0], [0], [1, 2]] := by decide +kernel
section
variable (I : IdomOk (succsF l19B) (orderF l19B) 4 [-1, 0, 0, 0])
theorem l19_last (b : Nat) {r : Int} (h : lastDc [⟨0, 0, -1, [], []⟩, ⟨1, 0, 0, [], []⟩, ⟨1, 1, 0, [], []⟩, ⟨3, 3, -1, [], []⟩, ⟨2, 3, 0, [], []⟩] b 5 = r) : lastD (laidA l19B l19H (orderF l19B) 4) b (laidA l19B l19H (orderF l19B) 4).length = r := by rw [l19_laid, lastDc_eq]; exact h
include I
theorem l19_e0 : endF (laidA l19B l19H (orderF l19B) 4) [-1, 0, 0, 0] (orderF l19B) 0 = 1 := by rw [endF_eq I (order_ok l19B) (l19_in 0 (by decide)), l19_last 0 (r := 1) (by decide), stF_here (by decide)]
theorem l19_e1 : endF (laidA l19B l19H (orderF l19B) 4) [-1, 0, 0, 0] (orderF l19B) 1 = 2 := by rw [endF_eq I (order_ok l19B) (l19_in 1 (by decide)), l19_last 1 (r := 2) (by decide), stF_here (by decide)]
theorem l19_e3 : endF (laidA l19B l19H (orderF l19B) 4) [-1, 0, 0, 0] (orderF l19B) 3 = 3 := by rw [endF_eq I (order_ok l19B) (l19_in 3 (by decide)), l19_last 3 (r := 3) (by decide), stF_here (by decide)]
theorem l19_e2 : endF (laidA l19B l19H (orderF l19B) 4) [-1, 0, 0, 0] (orderF l19B) 2 = 1 := by rw [endF_eq I (order_ok l19B) (l19_in 2 (by decide)), l19_last 2 (r := -1) (by decide), stF_up (u := 0) (by decide) rfl (by decide), l19_e0 I]
theorem l19_ends : endsL (laidA l19B l19H (orderF l19B) 4) [-1, 0, 0, 0] (orderF l19B) 4 = [1, 2, 1, 3] := by
  have h0 := l19_in 0 (by decide)
  have h1 := l19_in 1 (by decide)
  have h2 := l19_in 2 (by decide)
  have h3 := l19_in 3 (by decide)
  show [if ((0 : Nat) : Int) ∈ orderF l19B then _ else _, if ((1 : Nat) : Int) ∈ orderF l19B then _ else _, if ((2 : Nat) : Int) ∈ orderF l19B then _ else _, if ((3 : Nat) : Int) ∈ orderF l19B then _ else _] = _
  rw [if_pos h0, if_pos h1, if_pos h2, if_pos h3, l19_e0 I, l19_e1 I, l19_e2 I, l19_e3 I]
end
theorem l19_from : fromL [[], [0], [0], [1, 2]] (orderF l19B) 3 = [1, 2] := by
  show List.filter _ [1, 2] = [1, 2]
  rw [List.filter_cons_of_pos (by simpa using l19_in 1 (by decide)), List.filter_cons_of_pos (by simpa using l19_in 2 (by decide)), List.filter_nil]
theorem l19_len : (builtA (laidA l19B l19H (orderF l19B) 4) [-1, 0, 0, 0] (orderF l19B) (predsL (succsF l19B) 4)).length = 5 := by unfold builtA; rw [List.length_mapIdx, l19_laid]; rfl
theorem l19_phi (I : IdomOk (succsF l19B) (orderF l19B) 4 [-1, 0, 0, 0]) : (builtA (laidA l19B l19H (orderF l19B) 4) [-1, 0, 0, 0] (orderF l19B) (predsL (succsF l19B) 4))[3]? = some ⟨3, 3, -1, [2, 1], [1, 2]⟩ := by
  rw [built_at (i := 3) (a := ⟨3, 3, -1, [], []⟩) (by rw [l19_laid]; rfl)]
  unfold accD
  rw [if_neg (by decide), if_pos rfl, l19_P]
  show some (⟨3, 3, -1, (fromL _ _ 3).map _, fromL _ _ 3⟩ : Ac) = _
  rw [l19_from]
  show some (⟨3, 3, -1, [endF _ _ _ 1, endF _ _ _ 2], [1, 2]⟩ : Ac) = _
  rw [l19_e1 I, l19_e2 I]
def long18m (f : Fun) : Bool := !decide ((totN f : Int) ≤ 800)
set_option maxRecDepth 100000 in
set_option maxHeartbeats 3200000 in
theorem long18m_any (f : Fun) (c1 c2 : Value) (w : World) (B : Nat) (hB : B ≤ w.heap.size) (hf : RFun.rep w B [.string f.name, c1, .int .i64 f.ret, c2] f) (hsz : funSz f ≤ 2000000) :
    Calls Try.prog 21 #[f.v c1 c2] w (RetB (long18m f) w) := by
  obtain ⟨hp, hb⟩ := fun_open (RFun.later hf (Below.refl _ _) hB)
  obtain ⟨A1, k1, h1, -, -⟩ := Rp.slice1_open hp
  obtain ⟨A2, k2, h2, hm2, -⟩ := Rp.slice1_open hb
  cases h1; cases h2
  clear hp hb
  obtain ⟨W, hW, hwW, hWs, hx⟩ := boxes1 w #[.string f.name, .slice A1 f.params.length k1, .int .i64 f.ret, .slice A2 f.blocks.length k2] 25
  have q0 : ∀ w', Below W.heap.size W w' → w'.cell? ⟨w.heap.size, 0, none⟩ = some (.string f.name) := hx 0 _ rfl
  have q1 : ∀ w', Below W.heap.size W w' → w'.cell? ⟨w.heap.size, 1, none⟩ = some (.slice A1 f.params.length k1) := hx 1 _ rfl
  have q2 : ∀ w', Below W.heap.size W w' → w'.cell? ⟨w.heap.size, 2, none⟩ = some (.int .i64 f.ret) := hx 2 _ rfl
  have q3 : ∀ w', Below W.heap.size W w' → w'.cell? ⟨w.heap.size, 3, none⟩ = some (.slice A2 f.blocks.length k2) := hx 3 _ rfl
  clear hx
  have hws : w.heap.size ≤ W.heap.size := by omega
  replace hWs := hide hWs
  have hself := Below.refl W.heap.size W
  have hfW := RFun.later hf (hwW.mono hB) (Nat.le_trans hB hwW.size)
  have c9 := few1_any f 800 (.slice (some ⟨W.heap.size, 0, none⟩) 1 1) _ _ (Nat.le_refl _) (one_fun (Nat.le_refl _) hfW) (by have := totN_le (f := f); omega)
  obtain ⟨d, hd⟩ : ∃ d, Hid (d = decide ((totN f : Int) ≤ 800)) := ⟨_, hide rfl⟩
  rw [← hd.out] at c9
  have hv : Hid (long18m f = !d) := hide (by unfold long18m; rw [hd.out])
  replace c9 := hide c9
  replace hf := hide hf
  replace hfW := hide hfW
  go_enter Try.func21, Try.ntmps21
  go_wp2_with (fail)
  refine c9.out.mono ?_
  rintro e w9 ⟨rfl, hb9⟩
  have hb := hwW.trans ((bstep hb9).mono hws)
  go_wp2
  go_ret
  exact ⟨ret_bool hv.out.symm, hb⟩
def long19F (f : Fun) : Bool := decide (40 < f.blocks.length) || longF f || long18m f
set_option maxRecDepth 100000 in
set_option maxHeartbeats 3200000 in
theorem long19_any (f : Fun) (c1 c2 : Value) (w : World) (B : Nat) (hB : B ≤ w.heap.size) (hf : RFun.rep w B [.string f.name, c1, .int .i64 f.ret, c2] f) (hsz : funSz f ≤ 2000000) :
    Calls Try.prog 9 #[f.v c1 c2] w (RetB (long19F f) w) := by
  obtain ⟨hp, hb⟩ := fun_open (RFun.later hf (Below.refl _ _) hB)
  obtain ⟨A1, k1, h1, -, -⟩ := Rp.slice1_open hp
  obtain ⟨A2, k2, h2, hm2, -⟩ := Rp.slice1_open hb
  cases h1; cases h2
  clear hp hb
  obtain ⟨n, hn⟩ : ∃ n, Hid (n = f.blocks.length) := ⟨_, hide rfl⟩
  rw [← hn.out] at hf hm2 ⊢
  obtain ⟨W, hW, hwW, hWs, hx⟩ := boxes1 w #[.string f.name, .slice A1 f.params.length k1, .int .i64 f.ret, .slice A2 n k2] 25
  have q0 : ∀ w', Below W.heap.size W w' → w'.cell? ⟨w.heap.size, 0, none⟩ = some (.string f.name) := hx 0 _ rfl
  have q1 : ∀ w', Below W.heap.size W w' → w'.cell? ⟨w.heap.size, 1, none⟩ = some (.slice A1 f.params.length k1) := hx 1 _ rfl
  have q2 : ∀ w', Below W.heap.size W w' → w'.cell? ⟨w.heap.size, 2, none⟩ = some (.int .i64 f.ret) := hx 2 _ rfl
  have q3 : ∀ w', Below W.heap.size W w' → w'.cell? ⟨w.heap.size, 3, none⟩ = some (.slice A2 n k2) := hx 3 _ rfl
  clear hx
  have hws : w.heap.size ≤ W.heap.size := by omega
  replace hWs := hide hWs
  have hself := Below.refl W.heap.size W
  have hF : Hid (∀ w', Below W.heap.size W w' → RFun.rep w' w'.heap.size [.string f.name, .slice A1 f.params.length k1, .int .i64 f.ret, .slice A2 n k2] f) := hide (fun w' h => RFun.later hf ((hwW.trans (h.mono hws)).mono hB) (Nat.le_trans hB (hwW.trans (h.mono hws)).size))
  obtain ⟨lb, hlb⟩ : ∃ lb, Hid (lb = longF f) := ⟨_, hide rfl⟩
  have cL : Hid (∀ w', Below W.heap.size W w' → Calls Try.prog 33 #[f.v (.slice A1 f.params.length k1) (.slice A2 n k2)] w' (RetB lb w')) := hide (fun w' h => by
    have := longf_any f (.slice A1 f.params.length k1) (.slice A2 n k2) w' w'.heap.size (Nat.le_refl _) (hF.out w' h) hsz
    rwa [← hlb.out] at this)
  obtain ⟨ld, hld⟩ : ∃ ld, Hid (ld = long18m f) := ⟨_, hide rfl⟩
  have cM : Hid (∀ w', Below W.heap.size W w' → Calls Try.prog 21 #[f.v (.slice A1 f.params.length k1) (.slice A2 n k2)] w' (RetB ld w')) := hide (fun w' h => by
    have := long18m_any f (.slice A1 f.params.length k1) (.slice A2 n k2) w' w'.heap.size (Nat.le_refl _) (hF.out w' h) hsz
    rwa [← hld.out] at this)
  replace hf := hide hf
  replace hwW := hide hwW
  by_cases hlt : 40 < n
  · have hgt : (n : Int) > 40 := by omega
    have hv : Hid (long19F f = true) := hide (by unfold long19F; rw [← hn.out]; simp [hlt])
    replace hlt := hide hlt
    go_enter Try.func9, Try.ntmps9
    go_wp2
    go_ret
    exact ⟨ret_bool hv.out.symm, hwW.out⟩
  · have hgt : ¬ (n : Int) > 40 := by omega
    have hv : Hid (long19F f = (lb || ld)) := hide (by unfold long19F; rw [← hn.out, ← hlb.out, ← hld.out]; simp [hlt])
    replace hlt := hide hlt
    go_enter Try.func9, Try.ntmps9
    go_wp2_with (fail)
    refine (cL.out W hself).mono ?_
    rintro e w9 ⟨rfl, hb9⟩
    cases lb with
    | true =>
      have hb := hide (hwW.out.trans (hb9.mono hws))
      clear hb9
      go_wp2
      go_ret
      exact ⟨ret_bool hv.out.symm, hb.out⟩
    | false =>
      go_wp2_with (fail)
      refine (cM.out w9 hb9).mono ?_
      rintro e w8 ⟨rfl, hb8⟩
      have hb := hide (hwW.out.trans ((hb9.trans (hb8.mono hb9.size)).mono hws))
      clear hb9 hb8
      go_wp2
      go_ret
      exact ⟨ret_bool hv.out.symm, hb.out⟩
end Go.Proofs.Yteeclobpajalmaa

namespace Go.Proofs.Yteeclobpajalmaa
open Go.RowKit
set_option linter.unusedSimpArgs false
set_option linter.unusedVariables false

set_option maxRecDepth 100000 in
set_option maxHeartbeats 6400000 in
theorem lives19_any (w : World) : Calls Try.prog 8 #[] w (RetB true w) := by
  obtain ⟨W, hW⟩ : ∃ W, ((((((((((w.alloc (.cells #[.int .i64 3] 3)).alloc (.cells #[.int .i64 28, .int .i64 (-1), .int .i64 0, .int .i64 0, .int .i64 0, .slice none 0 0, .slice none 0 0] 50)).alloc (.cells #[.int .i64 31, .int .i64 (-1), .int .i64 0, .int .i64 0, .int .i64 0, .slice none 0 0, .slice (some ⟨w.heap.size, 0, none⟩) 1 1] 50)).alloc (.cells #[.int .i64 1, .int .i64 2] 3)).alloc (.cells #[.int .i64 28, .int .i64 (-1), .int .i64 0, .int .i64 0, .int .i64 0, .slice none 0 0, .slice none 0 0, .int .i64 32, .int .i64 (-1), .int .i64 0, .int .i64 0, .int .i64 0, .slice none 0 0, .slice (some ⟨w.heap.size + 1 + 1 + 1, 0, none⟩) 2 2] 50)).alloc (.cells #[.int .i64 28, .int .i64 (-1), .int .i64 0, .int .i64 0, .int .i64 0, .slice none 0 0, .slice none 0 0, .int .i64 31, .int .i64 (-1), .int .i64 0, .int .i64 0, .int .i64 0, .slice none 0 0, .slice (some ⟨w.heap.size, 0, none⟩) 1 1] 50)).alloc (.cells #[.int .i64 31, .int .i64 (-1), .int .i64 0, .int .i64 0, .int .i64 0, .slice none 0 0, .slice (some ⟨w.heap.size, 0, none⟩) 1 1] 50)).alloc (.cells #[.int .i64 27, .int .i64 0, .int .i64 0, .int .i64 0, .int .i64 0, .slice none 0 0, .slice none 0 0, .int .i64 33, .int .i64 (-1), .int .i64 0, .int .i64 0, .int .i64 0, .slice none 0 0, .slice none 0 0] 50)).alloc (.cells #[.slice (some ⟨w.heap.size + 1 + 1 + 1 + 1, 0, none⟩) 2 2, .slice (some ⟨w.heap.size + 1 + 1 + 1 + 1 + 1, 0, none⟩) 2 2, .slice (some ⟨w.heap.size + 1 + 1 + 1 + 1 + 1 + 1, 0, none⟩) 1 1, .slice (some ⟨w.heap.size + 1 + 1 + 1 + 1 + 1 + 1 + 1, 0, none⟩) 2 2] 47)).alloc (.cells #[.string ⟨#[]⟩, .slice none 0 0, .int .i64 0, .slice (some ⟨w.heap.size + 1 + 1 + 1 + 1 + 1 + 1 + 1 + 1, 0, none⟩) 4 4] 25)) = W := ⟨_, rfl⟩
  have hWs : W.heap.size = w.heap.size + 10 := by rw [← hW]; simp
  have hwW : Below w.heap.size w W := by
    rw [← hW]
    repeat (refine Below.alloc ?_ (by simp <;> omega) _)
    exact Below.refl _ _
  have e0 : W.heap[w.heap.size]? = some (.cells #[.int .i64 3] 3 (0, 0)) := by rw [← hW]; exact (one_alloc (one_alloc (one_alloc (one_alloc (one_alloc (one_alloc (one_alloc (one_alloc (one_alloc (box_top _ _) _) _) _) _) _) _) _) _) _)
  have e1 : W.heap[w.heap.size + 1]? = some (.cells #[.int .i64 28, .int .i64 (-1), .int .i64 0, .int .i64 0, .int .i64 0, .slice none 0 0, .slice none 0 0] 50 (0, 0)) := by rw [← hW]; exact (one_alloc (one_alloc (one_alloc (one_alloc (one_alloc (one_alloc (one_alloc (one_alloc (box_at _ (by simp)) _) _) _) _) _) _) _) _)
  have e2 : W.heap[w.heap.size + 1 + 1]? = some (.cells #[.int .i64 31, .int .i64 (-1), .int .i64 0, .int .i64 0, .int .i64 0, .slice none 0 0, .slice (some ⟨w.heap.size, 0, none⟩) 1 1] 50 (0, 0)) := by rw [← hW]; exact (one_alloc (one_alloc (one_alloc (one_alloc (one_alloc (one_alloc (one_alloc (box_at _ (by simp)) _) _) _) _) _) _) _)
  have e3 : W.heap[w.heap.size + 1 + 1 + 1]? = some (.cells #[.int .i64 1, .int .i64 2] 3 (0, 0)) := by rw [← hW]; exact (one_alloc (one_alloc (one_alloc (one_alloc (one_alloc (one_alloc (box_at _ (by simp)) _) _) _) _) _) _)
  have e4 : W.heap[w.heap.size + 1 + 1 + 1 + 1]? = some (.cells #[.int .i64 28, .int .i64 (-1), .int .i64 0, .int .i64 0, .int .i64 0, .slice none 0 0, .slice none 0 0, .int .i64 32, .int .i64 (-1), .int .i64 0, .int .i64 0, .int .i64 0, .slice none 0 0, .slice (some ⟨w.heap.size + 1 + 1 + 1, 0, none⟩) 2 2] 50 (0, 0)) := by rw [← hW]; exact (one_alloc (one_alloc (one_alloc (one_alloc (one_alloc (box_at _ (by simp)) _) _) _) _) _)
  have e5 : W.heap[w.heap.size + 1 + 1 + 1 + 1 + 1]? = some (.cells #[.int .i64 28, .int .i64 (-1), .int .i64 0, .int .i64 0, .int .i64 0, .slice none 0 0, .slice none 0 0, .int .i64 31, .int .i64 (-1), .int .i64 0, .int .i64 0, .int .i64 0, .slice none 0 0, .slice (some ⟨w.heap.size, 0, none⟩) 1 1] 50 (0, 0)) := by rw [← hW]; exact (one_alloc (one_alloc (one_alloc (one_alloc (box_at _ (by simp)) _) _) _) _)
  have e6 : W.heap[w.heap.size + 1 + 1 + 1 + 1 + 1 + 1]? = some (.cells #[.int .i64 31, .int .i64 (-1), .int .i64 0, .int .i64 0, .int .i64 0, .slice none 0 0, .slice (some ⟨w.heap.size, 0, none⟩) 1 1] 50 (0, 0)) := by rw [← hW]; exact (one_alloc (one_alloc (one_alloc (box_at _ (by simp)) _) _) _)
  have e7 : W.heap[w.heap.size + 1 + 1 + 1 + 1 + 1 + 1 + 1]? = some (.cells #[.int .i64 27, .int .i64 0, .int .i64 0, .int .i64 0, .int .i64 0, .slice none 0 0, .slice none 0 0, .int .i64 33, .int .i64 (-1), .int .i64 0, .int .i64 0, .int .i64 0, .slice none 0 0, .slice none 0 0] 50 (0, 0)) := by rw [← hW]; exact (one_alloc (one_alloc (box_at _ (by simp)) _) _)
  have e8 : W.heap[w.heap.size + 1 + 1 + 1 + 1 + 1 + 1 + 1 + 1]? = some (.cells #[.slice (some ⟨w.heap.size + 1 + 1 + 1 + 1, 0, none⟩) 2 2, .slice (some ⟨w.heap.size + 1 + 1 + 1 + 1 + 1, 0, none⟩) 2 2, .slice (some ⟨w.heap.size + 1 + 1 + 1 + 1 + 1 + 1, 0, none⟩) 1 1, .slice (some ⟨w.heap.size + 1 + 1 + 1 + 1 + 1 + 1 + 1, 0, none⟩) 2 2] 47 (0, 0)) := by rw [← hW]; exact (one_alloc (box_at _ (by simp)) _)
  have e9 : W.heap[w.heap.size + 1 + 1 + 1 + 1 + 1 + 1 + 1 + 1 + 1]? = some (.cells #[.string ⟨#[]⟩, .slice none 0 0, .int .i64 0, .slice (some ⟨w.heap.size + 1 + 1 + 1 + 1 + 1 + 1 + 1 + 1, 0, none⟩) 4 4] 25 (0, 0)) := by rw [← hW]; exact (box_at _ (by simp))
  have hml : ∀ n, n ≤ 8 → n ≤ maxLen := fun n hn => by unfold maxLen; omega
  have r0 : RInts.rep W W.heap.size [.slice (some ⟨w.heap.size, 0, none⟩) 1 1] [3] := slice_mk (xs := ([3] : List Int)) (by omega) e0 (Nat.le_refl _) (hml _ (by simp)) (fun i x hx => by
    have : i = 0 := by have := (List.getElem?_eq_some_iff.1 hx).1; simp at this; omega
    subst this
    injection hx with hx; subst hx; exact ⟨[.int .i64 3], rfl, ⟨rfl, by decide⟩, rfl⟩)
  have r3 : RInts.rep W W.heap.size [.slice (some ⟨w.heap.size + 1 + 1 + 1, 0, none⟩) 2 2] [1, 2] := slice_mk (xs := ([1, 2] : List Int)) (by omega) e3 (Nat.le_refl _) (hml _ (by simp)) (fun i x hx => by
    have : i = 0 ∨ i = 1 := by have := (List.getElem?_eq_some_iff.1 hx).1; simp at this; omega
    rcases this with rfl | rfl
    · injection hx with hx; subst hx; exact ⟨[.int .i64 1], rfl, ⟨rfl, by decide⟩, rfl⟩
    · injection hx with hx; subst hx; exact ⟨[.int .i64 2], rfl, ⟨rfl, by decide⟩, rfl⟩)
  have r4 : RBlk.rep W W.heap.size [.slice (some ⟨w.heap.size + 1 + 1 + 1 + 1, 0, none⟩) 2 2] [l19S, l19I] := slice_mk (xs := [l19S, l19I]) (by omega) e4 (Nat.le_refl _) (hml _ (by simp)) (fun i x hx => by
    have : i = 0 ∨ i = 1 := by have := (List.getElem?_eq_some_iff.1 hx).1; simp at this; omega
    rcases this with rfl | rfl
    · injection hx with hx; subst hx
      exact ⟨_, rfl, ⟨.slice none 0 0, .slice none 0 0, rfl, Rp.nil_rep, Rp.nil_rep, by decide, by decide, by decide, by decide, by decide⟩, rfl⟩
    · injection hx with hx; subst hx
      exact ⟨_, rfl, ⟨.slice none 0 0, .slice (some ⟨w.heap.size + 1 + 1 + 1, 0, none⟩) 2 2, rfl, Rp.nil_rep, r3, by decide, by decide, by decide, by decide, by decide⟩, rfl⟩)
  have r5 : RBlk.rep W W.heap.size [.slice (some ⟨w.heap.size + 1 + 1 + 1 + 1 + 1, 0, none⟩) 2 2] [l19S, l19J] := slice_mk (xs := [l19S, l19J]) (by omega) e5 (Nat.le_refl _) (hml _ (by simp)) (fun i x hx => by
    have : i = 0 ∨ i = 1 := by have := (List.getElem?_eq_some_iff.1 hx).1; simp at this; omega
    rcases this with rfl | rfl
    · injection hx with hx; subst hx
      exact ⟨_, rfl, ⟨.slice none 0 0, .slice none 0 0, rfl, Rp.nil_rep, Rp.nil_rep, by decide, by decide, by decide, by decide, by decide⟩, rfl⟩
    · injection hx with hx; subst hx
      exact ⟨_, rfl, ⟨.slice none 0 0, .slice (some ⟨w.heap.size, 0, none⟩) 1 1, rfl, Rp.nil_rep, r0, by decide, by decide, by decide, by decide, by decide⟩, rfl⟩)
  have r6 : RBlk.rep W W.heap.size [.slice (some ⟨w.heap.size + 1 + 1 + 1 + 1 + 1 + 1, 0, none⟩) 1 1] [l19J] := slice_mk (xs := [l19J]) (by omega) e6 (Nat.le_refl _) (hml _ (by simp)) (fun i x hx => by
    have : i = 0 := by have := (List.getElem?_eq_some_iff.1 hx).1; simp at this; omega
    rcases this with rfl
    · injection hx with hx; subst hx
      exact ⟨_, rfl, ⟨.slice none 0 0, .slice (some ⟨w.heap.size, 0, none⟩) 1 1, rfl, Rp.nil_rep, r0, by decide, by decide, by decide, by decide, by decide⟩, rfl⟩)
  have r7 : RBlk.rep W W.heap.size [.slice (some ⟨w.heap.size + 1 + 1 + 1 + 1 + 1 + 1 + 1, 0, none⟩) 2 2] [l19L, l19R] := slice_mk (xs := [l19L, l19R]) (by omega) e7 (Nat.le_refl _) (hml _ (by simp)) (fun i x hx => by
    have : i = 0 ∨ i = 1 := by have := (List.getElem?_eq_some_iff.1 hx).1; simp at this; omega
    rcases this with rfl | rfl
    · injection hx with hx; subst hx
      exact ⟨_, rfl, ⟨.slice none 0 0, .slice none 0 0, rfl, Rp.nil_rep, Rp.nil_rep, by decide, by decide, by decide, by decide, by decide⟩, rfl⟩
    · injection hx with hx; subst hx
      exact ⟨_, rfl, ⟨.slice none 0 0, .slice none 0 0, rfl, Rp.nil_rep, Rp.nil_rep, by decide, by decide, by decide, by decide, by decide⟩, rfl⟩)
  have rb : RBlks.rep W W.heap.size [.slice (some ⟨w.heap.size + 1 + 1 + 1 + 1 + 1 + 1 + 1 + 1, 0, none⟩) 4 4] l19F.blocks := slice_mk (xs := l19B) (by omega) e8 (Nat.le_refl _) (hml _ (by decide)) (fun i x hx => by
    have : i = 0 ∨ i = 1 ∨ i = 2 ∨ i = 3 := by have := (List.getElem?_eq_some_iff.1 hx).1; simp [l19B] at this; omega
    rcases this with rfl | rfl | rfl | rfl
    · injection hx with hx; subst hx; exact ⟨[.slice (some ⟨w.heap.size + 1 + 1 + 1 + 1, 0, none⟩) 2 2], rfl, r4, rfl⟩
    · injection hx with hx; subst hx; exact ⟨[.slice (some ⟨w.heap.size + 1 + 1 + 1 + 1 + 1, 0, none⟩) 2 2], rfl, r5, rfl⟩
    · injection hx with hx; subst hx; exact ⟨[.slice (some ⟨w.heap.size + 1 + 1 + 1 + 1 + 1 + 1, 0, none⟩) 1 1], rfl, r6, rfl⟩
    · injection hx with hx; subst hx; exact ⟨[.slice (some ⟨w.heap.size + 1 + 1 + 1 + 1 + 1 + 1 + 1, 0, none⟩) 2 2], rfl, r7, rfl⟩)
  have hf : Hid (RFun.rep W W.heap.size [.string l19F.name, .slice none 0 0, .int .i64 l19F.ret, .slice (some ⟨w.heap.size + 1 + 1 + 1 + 1 + 1 + 1 + 1 + 1, 0, none⟩) 4 4] l19F) := hide ⟨_, _, rfl, Rp.nil_rep, rb, by decide, by decide⟩
  have f0 : ∀ w', Below W.heap.size W w' → w'.cell? ⟨w.heap.size + 1 + 1 + 1 + 1 + 1 + 1 + 1 + 1 + 1, 0, none⟩ = some (.string ⟨#[]⟩) := fun w' h => by rw [h.cell (p := ⟨w.heap.size + 1 + 1 + 1 + 1 + 1 + 1 + 1 + 1 + 1, 0, none⟩) (by show w.heap.size + 1 + 1 + 1 + 1 + 1 + 1 + 1 + 1 + 1 < W.heap.size; omega)]; simp [World.cell?, e9]
  have f1 : ∀ w', Below W.heap.size W w' → w'.cell? ⟨w.heap.size + 1 + 1 + 1 + 1 + 1 + 1 + 1 + 1 + 1, 1, none⟩ = some (.slice none 0 0) := fun w' h => by rw [h.cell (p := ⟨w.heap.size + 1 + 1 + 1 + 1 + 1 + 1 + 1 + 1 + 1, 1, none⟩) (by show w.heap.size + 1 + 1 + 1 + 1 + 1 + 1 + 1 + 1 + 1 < W.heap.size; omega)]; simp [World.cell?, e9]
  have f2 : ∀ w', Below W.heap.size W w' → w'.cell? ⟨w.heap.size + 1 + 1 + 1 + 1 + 1 + 1 + 1 + 1 + 1, 2, none⟩ = some (.int .i64 0) := fun w' h => by rw [h.cell (p := ⟨w.heap.size + 1 + 1 + 1 + 1 + 1 + 1 + 1 + 1 + 1, 2, none⟩) (by show w.heap.size + 1 + 1 + 1 + 1 + 1 + 1 + 1 + 1 + 1 < W.heap.size; omega)]; simp [World.cell?, e9]
  have f3 : ∀ w', Below W.heap.size W w' → w'.cell? ⟨w.heap.size + 1 + 1 + 1 + 1 + 1 + 1 + 1 + 1 + 1, 3, none⟩ = some (.slice (some ⟨w.heap.size + 1 + 1 + 1 + 1 + 1 + 1 + 1 + 1, 0, none⟩) 4 4) := fun w' h => by rw [h.cell (p := ⟨w.heap.size + 1 + 1 + 1 + 1 + 1 + 1 + 1 + 1 + 1, 3, none⟩) (by show w.heap.size + 1 + 1 + 1 + 1 + 1 + 1 + 1 + 1 + 1 < W.heap.size; omega)]; simp [World.cell?, e9]
  clear e0 e1 e2 e3 e4 e5 e6 e7 e8 e9 r0 r3 r4 r5 r6 r7 rb hml
  have hsz : w.heap.size ≤ W.heap.size := by omega
  have hzz : funSz l19F ≤ 2000000 := by decide
  have cB : Hid (∀ w', Below W.heap.size W w' → Calls Try.prog 11 #[.agg #[.string ⟨#[]⟩, .slice none 0 0, .int .i64 0, .slice (some ⟨w.heap.size + 1 + 1 + 1 + 1 + 1 + 1 + 1 + 1, 0, none⟩) 4 4]] w' (MBuildPost l19F l19H (orderF l19B) (succsF l19B) (predsL (succsF l19B) 4) 4 w')) := hide (fun w' h => mbuild_any l19F (.slice none 0 0) (.slice (some ⟨w.heap.size + 1 + 1 + 1 + 1 + 1 + 1 + 1 + 1, 0, none⟩) 4 4) w' w'.heap.size (Nat.le_refl _) (RFun.later hf.out h h.size) hzz)
  have cE : Hid (∀ w', Below W.heap.size W w' → Calls Try.prog 15 #[.agg #[.string ⟨#[]⟩, .slice none 0 0, .int .i64 0, .slice (some ⟨w.heap.size + 1 + 1 + 1 + 1 + 1 + 1 + 1 + 1, 0, none⟩) 4 4]] w' (EndsPost l19F l19H (orderF l19B) (succsF l19B) 4 w')) := hide (fun w' h => mends_any l19F (.slice none 0 0) (.slice (some ⟨w.heap.size + 1 + 1 + 1 + 1 + 1 + 1 + 1 + 1, 0, none⟩) 4 4) w' w'.heap.size (Nat.le_refl _) (RFun.later hf.out h h.size) hzz)
  have hself := Below.refl W.heap.size W
  replace hWs := hide hWs
  replace hwW := hide hwW
  clear hf hzz
  go_enter Try.func8, Try.ntmps8
  go_upto_region 3 with (fail)
  try rw [hW]
  clear hW
  go_wp2_with (fail)
  refine (cB.out _ hself).mono ?_
  rintro e X ⟨v, l, es, rfl, hI, hOw, hb1⟩
  have hI := hI (by decide)
  have hl := l19_up hI
  subst hl
  rw [if_neg (by decide)] at hOw
  obtain ⟨A, C, rfl⟩ := row_form hOw.row
  have hlen : (builtA (laidA l19F.blocks l19H (orderF l19B) 4) [-1, 0, 0, 0] (orderF l19B) (predsL (succsF l19B) 4)).length = 5 := l19_len
  obtain ⟨ls, hls⟩ : ∃ ls, Hid (ls = builtA (laidA l19F.blocks l19H (orderF l19B) 4) [-1, 0, 0, 0] (orderF l19B) (predsL (succsF l19B) 4)) := ⟨_, hide rfl⟩
  have hphi : ls[3]? = some ⟨3, 3, -1, [2, 1], [1, 2]⟩ := by rw [hls.out]; exact l19_phi hI
  rw [← hls.out] at hOw hlen ⊢
  rw [hlen]
  obtain ⟨go, hgo⟩ : ∃ go, A = some ⟨go, 0, none⟩ := by
    obtain ⟨g, cap, hv, -, -⟩ := hOw.row.form (by rw [hlen]; omega)
    simp only [Value.slice.injEq] at hv
    exact ⟨g, hv.1⟩
  subst hgo
  rw [hlen] at hOw
  obtain ⟨e3, he3⟩ := hOw.at_ hphi
  obtain ⟨w0, -, -, w3, -⟩ := hOw.cells hphi he3
  have w0 : X.cell? ⟨go, 15, none⟩ = some (.int .i64 3) := w0
  have w3 : X.cell? ⟨go, 18, none⟩ = some e3.d := w3
  obtain ⟨hdI, -⟩ := hOw.inn 3 _ _ hphi he3
  have hdI : OwnI X W.heap.size e3.d [2, 1] := hdI
  obtain ⟨Ad, Cd, hd⟩ := row_form hdI.row
  have hd : e3.d = .slice Ad 2 Cd := hd
  rw [hd] at w3 hdI
  have hs1 := hb1.size
  have hN1 : OwnI (X.alloc (.cells #[.int .i64 2, .int .i64 1] 3)) W.heap.size (.slice (some ⟨X.heap.size, 0, none⟩) 2 2) [2, 1] := own_lit rfl rfl (by decide) rfl hs1 (by decide)
  have hc1 := hide (ints_same (hdI.below (bk X (.cells #[.int .i64 2, .int .i64 1] 3))) hN1)
  have hk1 : Below W.heap.size W (X.alloc (.cells #[.int .i64 2, .int .i64 1] 3)) := hb1.alloc hs1 _
  replace hOw := hide hOw
  replace he3 := hide he3
  replace hphi := hide hphi
  replace hdI := hide hdI
  replace hd := hide hd
  replace hN1 := hide hN1
  replace hlen := hide hlen
  go_wp2_with (fail)
  refine hc1.out.mono ?_
  rintro e X2 ⟨rfl, hb2⟩
  have hk2 := hk1.trans (hb2.mono hk1.size)
  have hs2 := hk2.size
  go_wp2_with (fail)
  refine (cE.out _ hk2).mono ?_
  rintro e X3 ⟨ge, l2, rfl, hI2, hN, hb3⟩
  have hl2 := l19_up (hI2 (by decide))
  subst hl2
  have hN3 : OwnI X3 X2.heap.size (.slice (some ⟨ge, 0, none⟩) 4 4) [1, 2, 1, 3] := by
    have e := l19_ends hI
    have h := hN
    rw [show l19F.blocks = l19B from rfl, e] at h
    exact ⟨h, by decide⟩
  have hk3 := hk2.trans (hb3.mono hs2)
  have hs3 := hk3.size
  have hN4 : OwnI (X3.alloc (.cells #[.int .i64 1, .int .i64 2, .int .i64 1, .int .i64 3] 3)) W.heap.size (.slice (some ⟨X3.heap.size, 0, none⟩) 4 4) [1, 2, 1, 3] := own_lit rfl rfl (by decide) rfl hs3 (by decide)
  have hc3 := hide (ints_same (hN3.below (bk X3 (.cells #[.int .i64 1, .int .i64 2, .int .i64 1, .int .i64 3] 3))) hN4)
  have hk4 : Below W.heap.size W (X3.alloc (.cells #[.int .i64 1, .int .i64 2, .int .i64 1, .int .i64 3] 3)) := hk3.alloc hs3 _
  replace hN := hide hN
  replace hN3 := hide hN3
  replace hN4 := hide hN4
  replace hI2 := hide hI2
  replace hI := hide hI
  go_wp2_with (fail)
  refine hc3.out.mono ?_
  rintro e X5 ⟨rfl, hb5⟩
  have hfin := hide (hwW.out.trans ((hk4.trans (hb5.mono hk4.size)).mono hsz))
  go_wp2
  go_ret
  exact ⟨rfl, hfin.out⟩
end Go.Proofs.Yteeclobpajalmaa
