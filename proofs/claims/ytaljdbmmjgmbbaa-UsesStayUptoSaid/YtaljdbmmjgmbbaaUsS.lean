/- The law UsesStay, walked. No condition but sizes. -/
import Derived.Test.YtaljdbmmjgmbbaaUsL
import Derived.Test.YtaljdbmmjgmbbaaEqB
import Derived.Test.YtaljdbmmjgmbbaaSm
import Derived.Deep.RegionHeld3
namespace Go.Proofs.Ytaljdbmmjgmbbaa
open Go.RowKit
set_option linter.unusedSimpArgs false
set_option linter.unusedVariables false

theorem flat_leS (f : Fun) : f.blocks.flatten.length ≤ funSz f := by
  unfold funSz blksSz
  have : f.blocks.flatten.length ≤ (f.blocks.map blkSz).sum := by
    generalize f.blocks = l
    induction l with
    | nil => simp
    | cons x l ih =>
      simp only [List.flatten_cons, List.length_append, List.map_cons, List.sum_cons]
      have h2 : x.length ≤ (x.map insSz).sum := sum_len insSz (fun x => by unfold insSz; omega) x
      have h3 : blkSz x = (x.map insSz).sum + 1 := rfl
      omega
  omega
theorem small_cleanS {f : Fun} (hs : Small f) : Small (setBlocks f (cleanL f.blocks)) := by
  refine ⟨hs.params, by show (cleanL f.blocks).length ≤ _; simpa [cleanL] using hs.blocks, fun x hx => ?_⟩
  obtain ⟨l, hl, rfl⟩ := List.mem_map.1 (show x ∈ f.blocks.map (fun l => l.filter (needB f.blocks.flatten)) from hx)
  obtain ⟨h1, h2⟩ := hs.code l hl
  exact ⟨Nat.le_trans (List.length_filter_le _ _) h1, fun i hi => h2 i (List.mem_filter.1 hi).1⟩
/-- what is used is kept -/
theorem stay_def {bs : List (List Ins)} {y : Ins} (hy : y ∈ (cleanL bs).flatten) {v : Opd} (hv : v ∈ y.args) (hk : v.kind = 1) {a b : Bool} (ha : a = true → ∃ x, x ∈ bs.flatten ∧ defs x v.num = true) (ha' : a = false → noDef bs.flatten v.num)
    (hb : b = true → ∃ x, x ∈ (cleanL bs).flatten ∧ defs x v.num = true) (hb' : b = false → noDef (cleanL bs).flatten v.num) : a = b := by
  rw [cleanL_flatten] at *
  have hN := needB_iff.1 (List.mem_filter.1 hy).2
  cases a with
  | true =>
    cases b with
    | true => rfl
    | false =>
      obtain ⟨x, hx, hd⟩ := ha rfl
      have hd2 := hd
      unfold defs at hd2
      simp only [Bool.and_eq_true, beq_iff_eq, bne_iff_ne] at hd2
      have hNx : Need bs.flatten x := .step hx hd2.2 hN (List.any_eq_true.2 ⟨v, hv, by simp [usesReg, hk, hd2.1]⟩)
      have := hb' rfl x (List.mem_filter.2 ⟨hx, needB_iff.2 hNx⟩)
      rw [hd] at this; cases this
  | false =>
    cases b with
    | false => rfl
    | true =>
      obtain ⟨x, hx, hd⟩ := hb rfl
      have := ha' rfl x (List.mem_filter.1 hx).1
      rw [hd] at this; cases this
theorem isDef_mem {bs : List (List Ins)} {r : Int} {i j : Nat} (h : IsDef bs r i j) : ∃ x, x ∈ bs.flatten ∧ defs x r = true := by
  obtain ⟨x, ins, h1, h2, h3, -⟩ := h
  exact ⟨ins, List.mem_flatten.2 ⟨x, List.mem_of_getElem? h1, List.mem_of_getElem? h2⟩, h3⟩
theorem clean_open {f : Fun} {bs : List (List Ins)} {w : World} {e : Ending} {w' : World} {w1 : World} {B : Nat} {cs : List Value} (hf : RFun.rep w1 B cs f) (h : CopyPost (setBlocks f bs) w e w') : ∃ A C D E, e = .returned (f.v (.slice A f.params.length C) (.slice D bs.length E)) ∧
    RFun.rep w' w'.heap.size [.string f.name, .slice A f.params.length C, .int .i64 f.ret, .slice D bs.length E] (setBlocks f bs) ∧ Below w.heap.size w w' := by
  obtain ⟨c, d, h1, h2, h3, h4⟩ := h
  obtain ⟨_, _, _, -, -, hret, hnm⟩ := hf
  obtain ⟨A, C, e1⟩ := row_form h2.row
  obtain ⟨D, E, e2⟩ := h3.formU
  subst e1; subst e2
  exact ⟨A, C, D, E, h1, ⟨_, _, rfl, h2.rep, h3.rep, hret, hnm⟩, h4⟩
set_option maxRecDepth 100000 in
set_option maxHeartbeats 12800000 in
theorem law_uses_stay (f : Fun) (c1 c2 : Value) (w : World) (hf : RFun.rep w w.heap.size [.string f.name, c1, .int .i64 f.ret, c2] f) (hs : Small f) (hz : funSz f ≤ 2000000) :
    Calls Try.prog 7 #[f.v c1 c2] w (LawPost w) := by
  have hfl : f.blocks.flatten.length ≤ 2000000 := Nat.le_trans (flat_leS f) hz
  obtain ⟨hp, hb⟩ := fun_open (RFun.later hf (Below.refl _ _) (Nat.le_refl _))
  obtain ⟨A1, k1, h1, -, -⟩ := Rp.slice1_open hp
  obtain ⟨A2, k2, h2, hm2, -⟩ := Rp.slice1_open hb
  cases h1; cases h2
  clear hp hb
  obtain ⟨n, hn⟩ : ∃ n, Hid (n = f.blocks.length) := ⟨_, hide rfl⟩
  obtain ⟨np, hnp⟩ : ∃ n, Hid (n = f.params.length) := ⟨_, hide rfl⟩
  obtain ⟨cb, hcb⟩ : ∃ cb, Hid (cb = cleanL f.blocks) := ⟨_, hide rfl⟩
  have hcl : Hid (cb.length = n) := hide (by rw [hcb.out, hn.out]; simp [cleanL])
  have hnle : n ≤ 2000000 := by rw [hn.out]; exact hs.blocks
  rw [← hn.out, ← hnp.out] at hf ⊢
  rw [← hn.out] at hm2
  obtain ⟨W, hW, hwW, hWs, hx⟩ := boxes1 w #[.string f.name, .slice A1 np k1, .int .i64 f.ret, .slice A2 n k2] 25
  have q0 : ∀ w', Below W.heap.size W w' → w'.cell? ⟨w.heap.size, 0, none⟩ = some (.string f.name) := hx 0 _ rfl
  have q1 : ∀ w', Below W.heap.size W w' → w'.cell? ⟨w.heap.size, 1, none⟩ = some (.slice A1 np k1) := hx 1 _ rfl
  have q2 : ∀ w', Below W.heap.size W w' → w'.cell? ⟨w.heap.size, 2, none⟩ = some (.int .i64 f.ret) := hx 2 _ rfl
  have q3 : ∀ w', Below W.heap.size W w' → w'.cell? ⟨w.heap.size, 3, none⟩ = some (.slice A2 n k2) := hx 3 _ rfl
  clear hx
  have hws : w.heap.size ≤ W.heap.size := by omega
  replace hWs := hide hWs
  have hself := Below.refl W.heap.size W
  have hF : Hid (∀ w', Below w.heap.size w w' → RFun.rep w' w'.heap.size [.string f.name, .slice A1 np k1, .int .i64 f.ret, .slice A2 n k2] f) := hide (fun w' h => RFun.later hf h h.size)
  have hsm := hide hs
  have hsc := hide (small_cleanS hs)
  have hfh := hide hf
  have hwWh := hide hwW
  have hWe := hide hW
  clear hs hz hf hwW hW
  go_enter Try.func7, Try.ntmps7
  go_upto_region 1 with (fail)
  rw [hWe.out]
  clear hWe
  go_wp2_with (fail)
  refine (lives14 _).mono ?_
  rintro e w1 ⟨rfl, hb1⟩
  have c9 := hide (few_any [] [] [f] 2000 (.slice none 0 0) (.slice none 0 0) (.slice (some ⟨w1.heap.size, 0, none⟩) 1 1) _ _ (Nat.le_refl _) Rp.nil_rep Rp.nil_rep (one_fun (Nat.le_refl _) (hF.out w1 (hwWh.out.trans (hb1.mono hws)))))
  go_wp2_with (fail)
  refine c9.out.mono ?_
  rintro e w2 ⟨bl, rfl, hb2⟩
  have hbel2 := hb1.trans ((bstep hb2).mono hb1.size)
  clear hb1 hb2 c9
  cases bl with
  | false =>
    go_wp2
    go_ret
    exact ⟨rfl, hwWh.out.trans (hbel2.mono hws)⟩
  | true =>
  have hw2 := hide (hwWh.out.trans (hbel2.mono hws))
  have cC := hide (clean_any f (.slice A1 np k1) (.slice A2 n k2) w2 w2.heap.size (Nat.le_refl _) (hF.out w2 hw2.out) hsm.out hfl)
  have hs2 := hbel2.size
  go_wp2_with (fail)
  refine cC.out.mono ?_
  rintro e w3 h3
  rw [← hcb.out] at h3 hsc
  obtain ⟨Am, Cm, Dm, Em, rfl, hG, hb3⟩ := clean_open hfh.out h3
  rw [← hnp.out, hcl.out] at hG ⊢
  have hbel3 := hbel2.trans (hb3.mono hs2)
  have hs3 := hbel3.size
  obtain ⟨V, hV, hwV, hVs, hvc⟩ := boxes1 w3 #[.string f.name, .slice Am np Cm, .int .i64 f.ret, .slice Dm n Em] 25
  have hbelV := hide (hbel3.trans (hwV.mono hs3))
  have hsWV := hbelV.out.size
  have y0 : ∀ w', Below V.heap.size V w' → w'.cell? ⟨w3.heap.size, 0, none⟩ = some (.string f.name) := hvc 0 _ rfl
  have y1 : ∀ w', Below V.heap.size V w' → w'.cell? ⟨w3.heap.size, 1, none⟩ = some (.slice Am np Cm) := hvc 1 _ rfl
  have y2 : ∀ w', Below V.heap.size V w' → w'.cell? ⟨w3.heap.size, 2, none⟩ = some (.int .i64 f.ret) := hvc 2 _ rfl
  have y3 : ∀ w', Below V.heap.size V w' → w'.cell? ⟨w3.heap.size, 3, none⟩ = some (.slice Dm n Em) := hvc 3 _ rfl
  have upV : Hid (∀ w', Below V.heap.size V w' → Below W.heap.size W w') := hide (fun w' h => hbelV.out.trans (h.mono hsWV))
  have r0 : ∀ w', Below V.heap.size V w' → w'.cell? ⟨w.heap.size, 0, none⟩ = some (.string f.name) := fun w' h => q0 w' (upV.out w' h)
  have r1 : ∀ w', Below V.heap.size V w' → w'.cell? ⟨w.heap.size, 1, none⟩ = some (.slice A1 np k1) := fun w' h => q1 w' (upV.out w' h)
  have r2 : ∀ w', Below V.heap.size V w' → w'.cell? ⟨w.heap.size, 2, none⟩ = some (.int .i64 f.ret) := fun w' h => q2 w' (upV.out w' h)
  have r3 : ∀ w', Below V.heap.size V w' → w'.cell? ⟨w.heap.size, 3, none⟩ = some (.slice A2 n k2) := fun w' h => q3 w' (upV.out w' h)
  have hGV : Hid (∀ w', Below V.heap.size V w' → RFun.rep w' w'.heap.size [.string f.name, .slice Am np Cm, .int .i64 f.ret, .slice Dm n Em] (setBlocks f cb)) := hide (fun w' h => by
    have h9 := hwV.trans (h.mono (by omega))
    exact RFun.later hG h9 h9.size)
  have hFV : Hid (∀ w', Below V.heap.size V w' → RFun.rep w' w'.heap.size [.string f.name, .slice A1 np k1, .int .i64 f.ret, .slice A2 n k2] f) := hide (fun w' h => hF.out w' (hwWh.out.trans ((upV.out w' h).mono hws)))
  have hflc : Hid (cb.flatten.length ≤ f.blocks.flatten.length) := hide (by rw [hcb.out, cleanL_flatten]; exact List.length_filter_le _ _)
  have hcc : Hid (setBlocks (setBlocks f cb) (cleanL cb) = setBlocks f cb) := hide (by rw [hcb.out, clean_clean]; rfl)
  have cK : Hid (∀ w', Below V.heap.size V w' → Calls Try.prog 32 #[f.v (.slice Am np Cm) (.slice Dm n Em)] w' (CopyPost (setBlocks f cb) w')) := hide (fun w' h => by
    have := clean_any (setBlocks f cb) (.slice Am np Cm) (.slice Dm n Em) w' w'.heap.size (Nat.le_refl _) (hGV.out w' h) hsc.out (Nat.le_trans hflc.out hfl)
    rw [show (setBlocks f cb).blocks = cb from rfl, hcc.out] at this
    exact this)
  obtain ⟨sg, hsg⟩ : ∃ sg, Hid (sg = cb.flatten.length) := ⟨_, hide rfl⟩
  obtain ⟨sf, hsf⟩ : ∃ sf, Hid (sf = f.blocks.flatten.length) := ⟨_, hide rfl⟩
  have hle : sg ≤ sf := by rw [hsg.out, hsf.out]; exact hflc.out
  have cSg : Hid (∀ w', Below V.heap.size V w' → Calls Try.prog 33 #[f.v (.slice Am np Cm) (.slice Dm n Em)] w' fun e w'' => e = .returned (.int .i64 (sg : Int)) ∧ Below w'.heap.size w' w'') := hide (fun w' h => by
    obtain ⟨ha, hb⟩ := fun_open (x := setBlocks f cb) (hGV.out w' h)
    have := size_any (setBlocks f cb) _ _ w' w'.heap.size (Nat.le_refl _) ha hb (by have := hflc.out; show cb.flatten.length ≤ _; omega)
    rw [show (setBlocks f cb).blocks = cb from rfl, ← hsg.out] at this
    exact this)
  have cSf : Hid (∀ w', Below V.heap.size V w' → Calls Try.prog 33 #[f.v (.slice A1 np k1) (.slice A2 n k2)] w' fun e w'' => e = .returned (.int .i64 (sf : Int)) ∧ Below w'.heap.size w' w'') := hide (fun w' h => by
    obtain ⟨ha, hb⟩ := fun_open (hFV.out w' h)
    have := size_any f _ _ w' w'.heap.size (Nat.le_refl _) ha hb (by omega)
    rw [← hsf.out] at this
    exact this)
  have cDf : Hid (∀ (r : Int) w', Below V.heap.size V w' → Calls Try.prog 34 #[f.v (.slice A1 np k1) (.slice A2 n k2), .int .i64 r] w' (DefPost f r w')) := hide (fun r w' h => by
    obtain ⟨ha, hb⟩ := fun_open (hFV.out w' h)
    exact def_any f r _ _ w' w'.heap.size (Nat.le_refl _) ha hb)
  have cDg : Hid (∀ (r : Int) w', Below V.heap.size V w' → Calls Try.prog 34 #[f.v (.slice Am np Cm) (.slice Dm n Em), .int .i64 r] w' (DefPost (setBlocks f cb) r w')) := hide (fun r w' h => by
    obtain ⟨ha, hb⟩ := fun_open (x := setBlocks f cb) (hGV.out w' h)
    exact def_any (setBlocks f cb) r _ _ w' w'.heap.size (Nat.le_refl _) ha hb)
  have hselfV := Below.refl V.heap.size V
  have hV2 := hide hV
  have hwV2 := hide hwV
  replace hVs := hide hVs
  have hb3h := hide hb3
  have hGh := hide hG
  have hgt : ¬ ((sg : Int) > (sf : Int)) := by omega
  have hgt2 : decide ((sf : Int) < (sg : Int)) = false := by simp; omega
  have hgt3 : decide ((sg : Int) > (sf : Int)) = false := by simp; omega
  have hgt4 : ¬ (sf < sg) := by omega
  have hgt5 : ¬ ((sf : Int) < (sg : Int)) := by omega
  have hnn : ((n : Int) != (n : Int)) = false := by simp
  clear cC h3 hvc q0 q1 q2 q3 hself hV hwV hb3 hG hbel3
  go_upto_region 6 with (fail)
  rw [hV2.out]
  clear hV2
  obtain ⟨N3, hN3⟩ : ∃ N3, N3 = w3.heap.size := ⟨_, rfl⟩
  rw [← hN3] at y0 y1 y2 y3 ⊢
  replace hN3 := hide hN3
  go_region_held3 (fun w' => Below V.heap.size V w') (first | (with_reducible assumption) | exact hselfV.drew)
    (first
      | (go_at_call 33; refine (cSf.out _ hk3).mono ?_; rintro e u4 ⟨rfl, hb4⟩; have hk4 : Below V.heap.size V u4 := hk3.trans (hb4.mono hk3.size); clear hb4)
      | (go_at_call 33; refine (cSg.out _ hk2).mono ?_; rintro e u3 ⟨rfl, hb3⟩; have hk3 : Below V.heap.size V u3 := hk2.trans (hb3.mono hk2.size); clear hb3)
      | (go_at_call 27; refine (cS2.out).mono ?_; rintro e u2 ⟨rfl, hb2⟩; have hk2 : Below V.heap.size V u2 := hk1.trans (hb2.mono hk1.size); clear hb2)
      | (go_at_call 32
         refine (cK.out _ (hselfV.drew)).mono ?_
         rintro e u1 h1
         obtain ⟨Ac, Cc, Dc, Ec, rfl, hGc, hb1⟩ := clean_open hfh.out h1
         rw [← hnp.out, hcl.out] at hGc ⊢
         have hk1 : Below V.heap.size V u1 := (hselfV.drew).trans hb1
         have cS2 : Hid (Calls Try.prog 27 #[f.v (.slice Am np Cm) (.slice Dm n Em), f.v (.slice Ac np Cc) (.slice Dc n Ec)] u1 (EqPost true u1)) := hide (by
           have := same_func (setBlocks f cb) (setBlocks f cb) _ _ _ _ u1 u1.heap.size (Nat.le_refl _) (hGV.out u1 hk1) hGc
           rwa [decide_eq_true rfl] at this)
         clear hGc h1 hb1))
  rename World => X
  have hX := hk4
  clear cS2 hk1 hk2 hk3 hk4 cK cSg cSf hgt hgt2 hgt3 hgt4 hgt5 hnn
  have hsVX := hX.size
  obtain ⟨-, hbX⟩ := fun_open (x := setBlocks f cb) (hGV.out X hX)
  obtain ⟨A4, k4, h4, hm4, gb⟩ := Rp.slice1_open hbX
  rw [show (setBlocks f cb).blocks.length = n from hcl.out] at h4
  cases h4
  rw [show (setBlocks f cb).blocks = cb from rfl] at gb
  replace gb := hide gb
  clear hbX
  have z0 : ∀ w', Below X.heap.size X w' → w'.cell? ⟨N3, 0, none⟩ = some (.string f.name) := fun w' h => y0 w' (hX.trans (h.mono hsVX))
  have z1 : ∀ w', Below X.heap.size X w' → w'.cell? ⟨N3, 1, none⟩ = some (.slice Am np Cm) := fun w' h => y1 w' (hX.trans (h.mono hsVX))
  have z2 : ∀ w', Below X.heap.size X w' → w'.cell? ⟨N3, 2, none⟩ = some (.int .i64 f.ret) := fun w' h => y2 w' (hX.trans (h.mono hsVX))
  have z3 : ∀ w', Below X.heap.size X w' → w'.cell? ⟨N3, 3, none⟩ = some (.slice Dm n Em) := fun w' h => y3 w' (hX.trans (h.mono hsVX))
  have s0 : ∀ w', Below X.heap.size X w' → w'.cell? ⟨w.heap.size, 0, none⟩ = some (.string f.name) := fun w' h => r0 w' (hX.trans (h.mono hsVX))
  have s1 : ∀ w', Below X.heap.size X w' → w'.cell? ⟨w.heap.size, 1, none⟩ = some (.slice A1 np k1) := fun w' h => r1 w' (hX.trans (h.mono hsVX))
  have s2 : ∀ w', Below X.heap.size X w' → w'.cell? ⟨w.heap.size, 2, none⟩ = some (.int .i64 f.ret) := fun w' h => r2 w' (hX.trans (h.mono hsVX))
  have s3 : ∀ w', Below X.heap.size X w' → w'.cell? ⟨w.heap.size, 3, none⟩ = some (.slice A2 n k2) := fun w' h => r3 w' (hX.trans (h.mono hsVX))
  have upX : Hid (∀ w', Below X.heap.size X w' → Below V.heap.size V w') := hide (fun w' h => hX.trans (h.mono hsVX))
  have hwX : Hid (∀ w', Below X.heap.size X w' → Below w.heap.size w w') := hide (fun w' h => hwWh.out.trans ((upV.out w' (upX.out w' h)).mono hws))
  replace hX := hide hX
  have hselfX := Below.refl X.heap.size X
  clear y0 y1 y2 y3 r0 r1 r2 r3 hselfV
  go_wp2
  go_loopw [47] (fun s wr => ∃ b : Nat, s = .int .i64 b ∧ b ≤ n ∧ Below X.heap.size X wr) (fun s _ => n - (intOf s).toNat)
  case atStart => exact ⟨0, rfl, Nat.zero_le _, hselfX⟩
  case round =>
    clear hselfX
    rename World => wr
    obtain ⟨b, rfl, hb, hbel⟩ := hrel
    by_cases hlt : b < n
    · have hbi : (b : Int) < (n : Int) := by omega
      obtain ⟨x, hx⟩ := get_ex (l := cb) (k := b) (by rw [hcl.out]; exact hlt)
      obtain ⟨b1, o1, rfl, he1⟩ := gb.out (by rw [hcl.out]; omega)
      obtain ⟨d1, hr1, hd1⟩ := he1 b x hx.out
      obtain ⟨A3, c3, h3, hmx3, ga3⟩ := Rp.slice_open hr1
      cases h3
      replace ga3 := hide ga3
      have hd0 := hd1 wr hbel
      have hxl : x.length ≤ 2000000 := (hsc.out.code x (List.mem_of_getElem? hx.out)).1
      clear hd1 hr1 he1
      have hbel2 : Below X.heap.size X (wr.alloc (.cells #[.slice A3 x.length c3] 41)) := hbel.alloc hbel.size _
      go_wp2
      go_loopw [54] (fun s wx => ∃ i : Nat, s = .int .i64 i ∧ i ≤ x.length ∧ Below X.heap.size X wx) (fun s _ => x.length - (intOf s).toNat)
      case atStart => exact ⟨0, rfl, Nat.zero_le _, hbel2⟩
      case round =>
        clear hbel hbel2 hd0
        rename World => wx
        obtain ⟨i, rfl, hi, hbel⟩ := hrel
        by_cases hlt2 : i < x.length
        · have hii : (i : Int) < (x.length : Int) := by omega
          obtain ⟨b3, o3, rfl, he3⟩ := ga3.out (by omega)
          obtain ⟨ins, hins⟩ := get_ex (l := x) (k := i) hlt2
          obtain ⟨_, _, ⟨a1, a2, rfl, ha, hto, -⟩, hc⟩ := he3 i ins hins.out
          obtain ⟨A5, k5, h5, hm5, ga5⟩ := Rp.slice_open ha
          obtain ⟨A6, k6, h6, hm6, -⟩ := Rp.slice1_open hto
          cases h5; cases h6
          replace ga5 := hide ga5
          obtain ⟨e0, e1, e2, e3, e4, e5, e6⟩ := hc.seven
          have hmem : Hid (ins ∈ cb.flatten) := hide (List.mem_flatten.2 ⟨x, List.mem_of_getElem? hx.out, List.mem_of_getElem? hins.out⟩)
          have hal : ins.args.length ≤ 2000000 := ((hsc.out.code x (List.mem_of_getElem? hx.out)).2 ins (List.mem_of_getElem? hins.out)).1
          clear he3 ha hto hc
          have hbel2 : Below X.heap.size X (wx.alloc (.cells #[.int .i64 ins.op, .int .i64 ins.reg, .int .i64 ins.ty, .int .i64 ins.num, .int .i64 ins.flags, .slice A5 ins.args.length k5, .slice A6 ins.to.length k6] 44)) := hbel.alloc hbel.size _
          go_wp2
          go_loopw [61] (fun s wy => ∃ k : Nat, s = .int .i64 k ∧ k ≤ ins.args.length ∧ Below X.heap.size X wy) (fun s _ => ins.args.length - (intOf s).toNat)
          case atStart => exact ⟨0, rfl, Nat.zero_le _, hbel2⟩
          case round =>
            clear hbel hbel2 e0 e1 e2 e3 e4 e5 e6
            rename World => wy
            obtain ⟨k, rfl, hk, hbel⟩ := hrel
            by_cases hlt3 : k < ins.args.length
            · have hki : (k : Int) < (ins.args.length : Int) := by omega
              obtain ⟨v, hv⟩ := get_ex (l := ins.args) (k := k) hlt3
              obtain ⟨b5, o5, rfl, he5⟩ := ga5.out (by omega)
              obtain ⟨_, _, ⟨rfl, hIv⟩, hav⟩ := he5 k v hv.out
              obtain ⟨p0, p1, p2⟩ := hav.three
              replace hIv := hide hIv
              clear he5 hav
              obtain ⟨Z, hZ, hwZ, hZs, hzc⟩ := boxes1 wy #[.int .i64 v.kind, .int .i64 v.num, .int .u64 v.bits] 28
              have hbelZ := hbel.trans (hwZ.mono hbel.size)
              have t0 : ∀ w', Below Z.heap.size Z w' → w'.cell? ⟨wy.heap.size, 0, none⟩ = some (.int .i64 v.kind) := hzc 0 _ rfl
              have t1 : ∀ w', Below Z.heap.size Z w' → w'.cell? ⟨wy.heap.size, 1, none⟩ = some (.int .i64 v.num) := hzc 1 _ rfl
              have hselfZ := Below.refl Z.heap.size Z
              have hZs2 := hbelZ.size
              replace hwZ := hide hwZ
              replace hZs := hide hZs
              replace hZ := hide hZ
              clear hzc
              have cA := hide (cDf.out v.num Z (upX.out Z hbelZ))
              go_upto_region 17 with (fail)
              rw [hZ.out]
              clear hZ p0 p1 p2
              obtain ⟨N9, hN9⟩ : ∃ N9, N9 = wy.heap.size := ⟨_, rfl⟩
              rw [← hN9] at t0 t1 ⊢
              replace hN9 := hide hN9
              go_wp2_with (fail)
              refine cA.out.mono ?_
              rintro e Z1 ⟨i1, j1, fd1, rfl, hb1, hf1, hf1'⟩
              have hbel1 := hselfZ.trans hb1
              have hY1 := hbelZ.trans (hb1.mono hZs2)
              have hal1 := hbel1.alloc hbel1.size (.cells #[.int .i64 0, .int .i64 i1, .int .i64 j1] 58)
              have halX := hY1.alloc hY1.size (.cells #[.int .i64 0, .int .i64 i1, .int .i64 j1] 58)
              have cB := hide (cDg.out v.num _ (upX.out _ halX))
              replace hf1 := hide hf1
              replace hf1' := hide hf1'
              clear cA hb1
              go_wp2_with (fail)
              refine cB.out.mono ?_
              rintro e Z2 ⟨i2, j2, fd2, rfl, hb2, hf2, hf2'⟩
              have hbel2 := hal1.trans (hb2.mono hal1.size)
              have hY2 := halX.trans (hb2.mono halX.size)
              have hal2 := hbel2.alloc hbel2.size (.cells #[.int .i64 0, .int .i64 i2, .int .i64 j2] 58)
              have halX2 := hY2.alloc hY2.size (.cells #[.int .i64 0, .int .i64 i2, .int .i64 j2] 58)
              replace hf2 := hide hf2
              replace hf2' := hide hf2'
              clear cB hb2
              by_cases hk1 : v.kind = 1
              · have hk2 : (v.kind == 1) = true := by simp [hk1]
                have hsame : fd1 = fd2 := stay_def (bs := f.blocks) (by rw [← hcb.out]; exact hmem.out) (List.mem_of_getElem? hv.out) hk1 (fun h => isDef_mem (hf1.out h)) (fun h => (hf1'.out h).2.2) (fun h => by rw [← hcb.out]; exact isDef_mem (hf2.out h)) (fun h => by rw [← hcb.out]; exact (hf2'.out h).2.2)
                subst hsame
                have hbb : (fd1 != fd1) = false := by simp
                replace hk1 := hide hk1
                go_wp2
                go_roundw
                case rel => exact ⟨k + 1, by go_num, hlt3, halX2⟩
                case measure => simp [intOf]; omega
              · have hk2 : (v.kind == 1) = false := by simp [hk1]
                replace hk1 := hide hk1
                go_wp2
                go_roundw
                case rel => exact ⟨k + 1, by go_num, hlt3, halX2⟩
                case measure => simp [intOf]; omega
            · obtain rfl : k = ins.args.length := by omega
              go_wp2
              go_roundw
              case rel => exact ⟨i + 1, by go_num, hlt2, hbel⟩
              case measure => simp [intOf]; omega
        · obtain rfl : i = x.length := by omega
          go_wp2
          go_roundw
          case rel => exact ⟨b + 1, by go_num, hlt, hbel⟩
          case measure => simp [intOf]; omega
    · obtain rfl : b = n := by omega
      have hfin := hide (hwX.out wr hbel)
      go_wp2
      go_ret
      exact ⟨rfl, hfin.out⟩
end Go.Proofs.Ytaljdbmmjgmbbaa
