/- The law UsesTell, walked. No condition but sizes. -/
import Derived.Test.YtkhlnopbgngjbaaUsG
import Derived.Test.YtkhlnopbgngjbaaUsL
import Derived.Test.YtkhlnopbgngjbaaTrB
import Derived.Test.YtkhlnopbgngjbaaSm
import Derived.Deep.RegionHeld3
namespace Go.Proofs.Ytkhlnopbgngjbaa
open Go.RowKit
set_option linter.unusedSimpArgs false
set_option linter.unusedVariables false

theorem usz_set (w : World) (p : Addr) (v : Value) : (w.setCell p v).heap.size = w.heap.size := by simp [World.setCell]
theorem usz_alloc (w : World) (o : Obj) : (w.alloc o).heap.size = w.heap.size + 1 := by simp
theorem usz_drew (w : World) : w.drew.heap.size = w.heap.size := rfl
theorem ubcell {W w1 : World} (hb : Below W.heap.size W w1) : (∀ b o, b < W.heap.size → w1.cell? ⟨b, o, none⟩ = W.cell? ⟨b, o, none⟩) ∧ (∀ b o, b < W.heap.size → w1.frozen? ⟨b, o, none⟩ = W.frozen? ⟨b, o, none⟩) :=
  ⟨fun b o h => hb.cell (p := ⟨b, o, none⟩) h, fun b o h => hb.frozen (p := ⟨b, o, none⟩) h⟩
theorem uset4z {w : World} {g : Nat} {x y z u : Value} {t : TypeId} (h : w.heap[g]? = some (.cells #[.string ⟨#[]⟩, .slice none 0 0, .int .i64 0, .slice none 0 0] t (0, 0))) :
    ((((w.setCell ⟨g, 0, none⟩ x).setCell ⟨g, 1, none⟩ y).setCell ⟨g, 2, none⟩ z).setCell ⟨g, 3, none⟩ u).heap[g]? = some (.cells #[x, y, z, u] t (0, 0)) := set4U h
theorem of_drewU {w : World} {g : Nat} {x : Option Obj} (h : w.heap[g]? = x) : w.drew.heap[g]? = x := h
theorem alloc_topU (w : World) (o o' : Obj) : ((w.alloc o).alloc o').heap[w.heap.size + 1]? = some o' := by have := box_top (w.alloc o) o'; simpa using this
theorem alloc_topU4 (w : World) (p q r s : Addr) (x y z u : Value) (o : Obj) : (((((w.setCell p x).setCell q y).setCell r z).setCell s u).alloc o).heap[w.heap.size]? = some o := by
  have := box_top ((((w.setCell p x).setCell q y).setCell r z).setCell s u) o
  simpa only [usz_set] using this
theorem ucell_later {w : World} {p : Addr} {u : Value} (h : w.cell? p = some u) (hp : p.block < w.heap.size) : ∀ w', Below w.heap.size w w' → w'.cell? p = some u := fun w' hb => (hb.cell hp).trans h
theorem flat_le (f : Fun) : f.blocks.flatten.length ≤ funSz f := by
  unfold funSz blksSz
  have : f.blocks.flatten.length ≤ (f.blocks.map blkSz).sum := by
    generalize f.blocks = l
    induction l with
    | nil => simp
    | cons x l ih =>
      simp only [List.flatten_cons, List.length_append, List.map_cons, List.sum_cons]
      have h2 : x.length ≤ (x.map insSz).sum := sum_len insSz (fun x => by unfold insSz; omega) x
      have h3 : blkSz x = (x.map insSz).sum + 1 := rfl
      omega
  omega
theorem small_clean {f : Fun} (hs : Small f) : Small (setBlocks f (cleanL f.blocks)) := by
  refine ⟨hs.params, by show (cleanL f.blocks).length ≤ _; simpa [cleanL] using hs.blocks, fun x hx => ?_⟩
  obtain ⟨l, hl, rfl⟩ := List.mem_map.1 (show x ∈ f.blocks.map (fun l => l.filter (needB f.blocks.flatten)) from hx)
  obtain ⟨h1, h2⟩ := hs.code l hl
  exact ⟨Nat.le_trans (List.length_filter_le _ _) h1, fun i hi => h2 i (List.mem_filter.1 hi).1⟩
/-- two functions that calls have made, each in a box -/
def PairU (V wy : World) (f G : Fun) (np n : Nat) (s10 s11 : Value) : Prop :=
  ∃ (g h l1 m1 l2 m2 : Nat) (A : Option Addr) (C : Nat) (A' : Option Addr) (C' : Nat) (D : Option Addr) (E : Nat) (D' : Option Addr) (E' : Nat), s10 = .pointer (some ⟨g, 0, none⟩) ∧ s11 = .pointer (some ⟨h, 0, none⟩) ∧
    Tr l1 m1 wy G (.slice A np C) (.slice A' n C') ∧ Tr l2 m2 wy G (.slice D np E) (.slice D' n E') ∧
    wy.heap[g]? = some (.cells #[.string f.name, .slice A np C, .int .i64 f.ret, .slice A' n C'] 25 (0, 0)) ∧
    wy.heap[h]? = some (.cells #[.string f.name, .slice D np E, .int .i64 f.ret, .slice D' n E'] 25 (0, 0)) ∧
    Below V.heap.size V wy ∧ (V.heap.size ≤ l1 ∧ l1 ≤ m1 ∧ m1 ≤ l2 ∧ l2 ≤ m2 ∧ m2 ≤ wy.heap.size ∧ V.heap.size ≤ g ∧ V.heap.size ≤ h ∧ g ≠ h) ∧
    (g < l1 ∨ m1 ≤ g) ∧ (g < l2 ∨ m2 ≤ g) ∧ (h < l1 ∨ m1 ≤ h) ∧ (h < l2 ∨ m2 ≤ h)

set_option maxRecDepth 100000 in
set_option maxHeartbeats 12800000 in
theorem law_uses_tell (f : Fun) (c1 c2 : Value) (w : World) (hf : RFun.rep w w.heap.size [.string f.name, c1, .int .i64 f.ret, c2] f) (hs : Small f) (hz : funSz f ≤ 2000000) :
    Calls Try.prog 3 #[f.v c1 c2] w (LawPost w) := by
  have hfl : f.blocks.flatten.length ≤ 2000000 := Nat.le_trans (flat_le f) hz
  obtain ⟨hp, hb⟩ := fun_open (RFun.later hf (Below.refl _ _) (Nat.le_refl _))
  obtain ⟨A1, k1, h1, -, -⟩ := Rp.slice1_open hp
  obtain ⟨A2, k2, h2, hm2, -⟩ := Rp.slice1_open hb
  cases h1; cases h2
  clear hp hb
  obtain ⟨n, hn⟩ : ∃ n, Hid (n = f.blocks.length) := ⟨_, hide rfl⟩
  obtain ⟨np, hnp⟩ : ∃ n, Hid (n = f.params.length) := ⟨_, hide rfl⟩
  obtain ⟨len, hlen⟩ : ∃ len : Nat → Nat, Hid (len = fun b => (f.blocks.getD b []).length) := ⟨_, hide rfl⟩
  have hlenx : Hid (∀ (b : Nat) l, f.blocks[b]? = some l → len b = l.length) := hide (fun b l h => by rw [hlen.out]; show (f.blocks.getD b []).length = _; rw [getD_nil h])
  rw [← hn.out, ← hnp.out] at hf ⊢
  rw [← hn.out] at hm2
  obtain ⟨W, hW, hwW, hWs, hx⟩ := boxes1 w #[.string f.name, .slice A1 np k1, .int .i64 f.ret, .slice A2 n k2] 25
  have q0 : ∀ w', Below W.heap.size W w' → w'.cell? ⟨w.heap.size, 0, none⟩ = some (.string f.name) := hx 0 _ rfl
  have q1 : ∀ w', Below W.heap.size W w' → w'.cell? ⟨w.heap.size, 1, none⟩ = some (.slice A1 np k1) := hx 1 _ rfl
  have q2 : ∀ w', Below W.heap.size W w' → w'.cell? ⟨w.heap.size, 2, none⟩ = some (.int .i64 f.ret) := hx 2 _ rfl
  have q3 : ∀ w', Below W.heap.size W w' → w'.cell? ⟨w.heap.size, 3, none⟩ = some (.slice A2 n k2) := hx 3 _ rfl
  clear hx
  have hws : w.heap.size ≤ W.heap.size := by omega
  have hwsW : w.heap.size < W.heap.size := by omega
  replace hWs := hide hWs
  have hself := Below.refl W.heap.size W
  have hF : Hid (∀ w', Below w.heap.size w w' → RFun.rep w' w'.heap.size [.string f.name, .slice A1 np k1, .int .i64 f.ret, .slice A2 n k2] f) := hide (fun w' h => RFun.later hf h h.size)
  have hsm := hide hs
  have hsc := hide (small_clean hs)
  have hfh := hide hf
  have hwWh := hide hwW
  have hWe := hide hW
  clear hs hz hf hwW hW
  go_enter Try.func3, Try.ntmps3
  go_upto_region 1 with (fail)
  rw [hWe.out]
  clear hWe
  go_wp2_with (fail)
  refine (lives14 _).mono ?_
  rintro e w1 ⟨rfl, hb1⟩
  have c9 := hide (few_any [] [] [f] 600 (.slice none 0 0) (.slice none 0 0) (.slice (some ⟨w1.heap.size, 0, none⟩) 1 1) _ _ (Nat.le_refl _) Rp.nil_rep Rp.nil_rep (one_fun (Nat.le_refl _) (hF.out w1 (hwWh.out.trans (hb1.mono hws)))))
  go_wp2_with (fail)
  refine c9.out.mono ?_
  rintro e w2 ⟨bl, rfl, hb2⟩
  have hbel2 := hb1.trans ((bstep hb2).mono hb1.size)
  clear hb1 hb2 c9
  cases bl with
  | false =>
    go_wp2
    go_ret
    exact ⟨rfl, hwWh.out.trans (hbel2.mono hws)⟩
  | true =>
  have hw2 := hide (hwWh.out.trans (hbel2.mono hws))
  have cC := hide (rcopyfunc_any f (.slice A1 np k1) (.slice A2 n k2) w2 w2.heap.size (Nat.le_refl _) (hF.out w2 hw2.out) hsm.out)
  have hs2 := hbel2.size
  go_wp2_with (fail)
  refine cC.out.mono ?_
  rintro e w3 h3
  obtain ⟨cm, dm, rfl, hTm, hb3⟩ := copy_tr h3
  obtain ⟨Am, Cm, Dm, Em, e1, e2⟩ := hTm.form
  rw [← hnp.out] at e1
  rw [← hn.out] at e2
  subst e1; subst e2
  have hbel3 := hbel2.trans (hb3.mono hs2)
  have hs3 := hbel3.size
  have hs23 := hb3.size
  obtain ⟨V, hV, hwV, hVs, hvc⟩ := boxes1 w3 #[.string f.name, .slice Am np Cm, .int .i64 f.ret, .slice Dm n Em] 25
  have hbelV := hide (hbel3.trans (hwV.mono hs3))
  have hsWV := hbelV.out.size
  have y0 : ∀ w', Below V.heap.size V w' → w'.cell? ⟨w3.heap.size, 0, none⟩ = some (.string f.name) := hvc 0 _ rfl
  have y1 : ∀ w', Below V.heap.size V w' → w'.cell? ⟨w3.heap.size, 1, none⟩ = some (.slice Am np Cm) := hvc 1 _ rfl
  have y2 : ∀ w', Below V.heap.size V w' → w'.cell? ⟨w3.heap.size, 2, none⟩ = some (.int .i64 f.ret) := hvc 2 _ rfl
  have y3 : ∀ w', Below V.heap.size V w' → w'.cell? ⟨w3.heap.size, 3, none⟩ = some (.slice Dm n Em) := hvc 3 _ rfl
  have upV : Hid (∀ w', Below V.heap.size V w' → Below W.heap.size W w') := hide (fun w' h => hbelV.out.trans (h.mono hsWV))
  have r0 : ∀ w', Below V.heap.size V w' → w'.cell? ⟨w.heap.size, 0, none⟩ = some (.string f.name) := fun w' h => q0 w' (upV.out w' h)
  have r1 : ∀ w', Below V.heap.size V w' → w'.cell? ⟨w.heap.size, 1, none⟩ = some (.slice A1 np k1) := fun w' h => q1 w' (upV.out w' h)
  have r2 : ∀ w', Below V.heap.size V w' → w'.cell? ⟨w.heap.size, 2, none⟩ = some (.int .i64 f.ret) := fun w' h => q2 w' (upV.out w' h)
  have r3 : ∀ w', Below V.heap.size V w' → w'.cell? ⟨w.heap.size, 3, none⟩ = some (.slice A2 n k2) := fun w' h => q3 w' (upV.out w' h)
  have hTV := hide (hTm.kept (w' := V) fun k h1 h2 => hwV.block k h2)
  have hmine : Hid (∀ w', Below V.heap.size V w' → RFun.rep w' w'.heap.size [.string f.name, .slice Am np Cm, .int .i64 f.ret, .slice Dm n Em] f) := hide (fun w' h => (hTV.out.kept (w' := w') fun k h1 h2 => h.block k (by omega)).rep (u1 := .bool true) (u2 := .bool true) hfh.out rfl rfl)
  have horig : Hid (∀ w', Below V.heap.size V w' → RFun.rep w' w'.heap.size [.string f.name, .slice A1 np k1, .int .i64 f.ret, .slice A2 n k2] f) := hide (fun w' h => hF.out w' (hwWh.out.trans ((upV.out w' h).mono hws)))
  have cN : Hid (Calls Try.prog 16 #[f.v (.slice Am np Cm) (.slice Dm n Em)] V (NeededPost f.blocks V)) := hide (needed_any f _ _ V V.heap.size (Nat.le_refl _) (hmine.out V (Below.refl _ _)) hsm.out hfl)
  have cR : Hid (∀ w', Below V.heap.size V w' → Calls Try.prog 17 #[f.v (.slice A1 np k1) (.slice A2 n k2)] w' (RNeededPost f.blocks w')) := hide (fun w' h => rneeded_any f _ _ w' w'.heap.size (Nat.le_refl _) (horig.out w' h) hsm.out hfl)
  have cL : Hid (∀ w', Below V.heap.size V w' → Calls Try.prog 18 #[f.v (.slice Am np Cm) (.slice Dm n Em)] w' (CopyPost (setBlocks f (cleanL f.blocks)) w')) := hide (fun w' h => clean_any f _ _ w' w'.heap.size (Nat.le_refl _) (hmine.out w' h) hsm.out hfl)
  have cW : Hid (∀ w', Below V.heap.size V w' → Calls Try.prog 19 #[f.v (.slice A1 np k1) (.slice A2 n k2)] w' (CopyPost (setBlocks f (cleanL f.blocks)) w')) := hide (fun w' h => rclean_any f _ _ w' w'.heap.size (Nat.le_refl _) (horig.out w' h) hsm.out hfl)
  have hselfV := Below.refl V.heap.size V
  clear cC h3 hvc hTm q0 q1 q2 q3 hself
  go_upto_region 6 with (fail)
  try rw [hV]
  clear hV
  obtain ⟨N3, hN3⟩ : ∃ N3, N3 = w3.heap.size := ⟨_, rfl⟩
  have hN3V : N3 < V.heap.size := by omega
  have hN3W : W.heap.size ≤ N3 := by omega
  have hw3V : w3.heap.size < V.heap.size := by omega
  rw [← hN3] at y0 y1 y2 y3 ⊢
  replace hN3 := hide hN3
  replace hVs := hide hVs
  replace hwV := hide hwV
  replace hbel3 := hide hbel3
  replace hb3 := hide hb3
  replace hbel2 := hide hbel2
  go_wp2_with (fail)
  refine cN.out.mono ?_
  rintro e X1 ⟨gN, gs, T, rfl, hT, hTb, hbX1⟩
  have hTr := hide hT.reads
  rw [← hn.out, ← hlen.out] at hTr
  rw [← hn.out]
  replace hT := hide hT
  replace hTb := hide hTb
  have hs1 := hbX1.size
  clear cN
  go_wp2_with (fail)
  refine (cR.out X1 hbX1).mono ?_
  rintro e X ⟨gR, T2, rfl, hR, hRb, hbX2⟩
  rw [← hn.out, ← hlen.out] at hR
  rw [← hn.out]
  have hTrX := hide (hTr.out.later hbX2)
  replace hR := hide hR
  replace hRb := hide hRb
  have hVX := hbX1.trans (hbX2.mono hs1)
  have hsVX := hVX.size
  have hVXh := hide hVX
  replace hbX1 := hide hbX1
  replace hbX2 := hide hbX2
  replace hTr := hide hTr
  have yy0 := y0
  have yy1 := y1
  have yy2 := y2
  have yy3 := y3
  have rr0 := r0
  have rr1 := r1
  have rr2 := r2
  have rr3 := r3
  clear cR y0 y1 y2 y3 r0 r1 r2 r3 hs1 hselfV
  have hnn : ((n : Int) != (n : Int)) = false := by simp
  have hselfX := Below.refl X.heap.size X
  replace hVX := hide hVX
  go_wp2
  go_loopw [31] (fun s wr => ∃ b : Nat, s = .int .i64 b ∧ b ≤ n ∧ Below X.heap.size X wr) (fun s _ => n - (intOf s).toNat)
  case atStart => exact ⟨0, rfl, Nat.zero_le _, hselfX⟩
  case round =>
    clear hselfX
    rename World => wr
    obtain ⟨b, rfl, hb, hbel⟩ := hrel
    by_cases hlt : b < n
    · have hbi : (b : Int) < (n : Int) := by omega
      obtain ⟨x, hx⟩ := get_ex (l := f.blocks) (k := b) (by rw [← hn.out]; exact hlt)
      obtain ⟨At, Ct, t0, tc⟩ := hTrX.out b hlt
      obtain ⟨Ar, Cr, u0, uc⟩ := hR.out b hlt
      obtain ⟨ln, hln⟩ : ∃ ln, Hid (ln = len b) := ⟨_, hide rfl⟩
      rw [← hln.out] at t0 u0 tc uc
      have hlx : Hid (ln = x.length) := hide (by rw [hln.out]; exact hlenx.out b x hx.out)
      have hlnle : ln ≤ 2000000 := by rw [hlx.out]; exact (hsm.out.code x (List.mem_of_getElem? hx.out)).1
      have t00 := t0 wr hbel
      have u00 := u0 wr hbel
      have hll : ((ln : Int) != (ln : Int)) = false := by simp
      replace tc := hide tc
      replace uc := hide uc
      go_upto_region 13 with (fail)
      go_quiet (fail)
      have hbq : Below X.heap.size X (wr.drewN nq) := below_drewN hbel _
      obtain ⟨wq, hwq⟩ : ∃ wq, wq = wr.drewN nq := ⟨_, rfl⟩
      rw [← hwq] at hbq ⊢
      clear hwq t00 u00
      go_wp2
      go_loopw [50] (fun s wx => ∃ i : Nat, s = .int .i64 i ∧ i ≤ ln ∧ Below X.heap.size X wx) (fun s _ => ln - (intOf s).toNat)
      case atStart => exact ⟨0, rfl, Nat.zero_le _, hbq⟩
      case round =>
        clear hbq
        rename World => wx
        obtain ⟨i, rfl, hi, hbel⟩ := hrel
        by_cases hlt2 : i < ln
        · have hii : (i : Int) < (ln : Int) := by omega
          obtain ⟨ins, hins⟩ := get_ex (l := x) (k := i) (by rw [← hlx.out]; exact hlt2)
          obtain ⟨gt, rfl, tv⟩ := tc.out i hlt2
          obtain ⟨gr, rfl, uv⟩ := uc.out i hlt2
          have hat := insAt_of hx.out hins.out
          obtain ⟨bv, hbv⟩ : ∃ bv : Bool, Hid (needB f.blocks.flatten ins = bv) := ⟨_, hide rfl⟩
          rw [hTb.out b i ins hat, hbv.out] at tv
          rw [hRb.out b i ins hat, hbv.out] at uv
          have t00 := t0 wx hbel
          have u00 := u0 wx hbel
          have tv0 := tv wx hbel
          have uv0 := uv wx hbel
          have hbb : (bv != bv) = false := by simp
          replace hat := hide hat
          clear tv uv
          go_upto_region 18 with (fail)
          go_quiet (fail)
          go_wp2
          go_roundw
          case rel => exact ⟨i + 1, by go_num, hlt2, below_drewN hbel _⟩
          case measure => simp [intOf]; omega
        · obtain rfl : i = ln := by omega
          go_wp2
          go_roundw
          case rel => exact ⟨b + 1, by go_num, hlt, hbel⟩
          case measure => simp [intOf]; omega
    · obtain rfl : b = n := by omega
      -- THE TWO CLEANED ONES
      have hVr := hVXh.out.trans (hbel.mono hsVX)
      have hsVr := hVr.size
      obtain ⟨U, rfl⟩ : ∃ U, U = wr := ⟨_, rfl⟩
      have upU : Hid (∀ w', Below U.heap.size U w' → Below V.heap.size V w') := hide (fun w' h => hVr.trans (h.mono hsVr))
      have hn2 : Hid (b = f.blocks.length) := hn
      have hslen : Hid ((setBlocks f (cleanL f.blocks)).blocks.length = b) := hide (by show (cleanL f.blocks).length = b; rw [hn.out]; simp [cleanL])
      have hplen : Hid ((setBlocks f (cleanL f.blocks)).params.length = np) := hide hnp.out.symm
      have y0 : ∀ w', Below U.heap.size U w' → w'.cell? ⟨N3, 0, none⟩ = some (.string f.name) := fun w' h => yy0 w' (upU.out w' h)
      have y1 : ∀ w', Below U.heap.size U w' → w'.cell? ⟨N3, 1, none⟩ = some (.slice Am np Cm) := fun w' h => yy1 w' (upU.out w' h)
      have y2 : ∀ w', Below U.heap.size U w' → w'.cell? ⟨N3, 2, none⟩ = some (.int .i64 f.ret) := fun w' h => yy2 w' (upU.out w' h)
      have y3 : ∀ w', Below U.heap.size U w' → w'.cell? ⟨N3, 3, none⟩ = some (.slice Dm b Em) := fun w' h => yy3 w' (upU.out w' h)
      have r0 : ∀ w', Below U.heap.size U w' → w'.cell? ⟨w.heap.size, 0, none⟩ = some (.string f.name) := fun w' h => rr0 w' (upU.out w' h)
      have r1 : ∀ w', Below U.heap.size U w' → w'.cell? ⟨w.heap.size, 1, none⟩ = some (.slice A1 np k1) := fun w' h => rr1 w' (upU.out w' h)
      have r2 : ∀ w', Below U.heap.size U w' → w'.cell? ⟨w.heap.size, 2, none⟩ = some (.int .i64 f.ret) := fun w' h => rr2 w' (upU.out w' h)
      have r3 : ∀ w', Below U.heap.size U w' → w'.cell? ⟨w.heap.size, 3, none⟩ = some (.slice A2 b k2) := fun w' h => rr3 w' (upU.out w' h)
      have cLU : Hid (∀ w', Below U.heap.size U w' → Calls Try.prog 18 #[f.v (.slice Am np Cm) (.slice Dm b Em)] w' (CopyPost (setBlocks f (cleanL f.blocks)) w')) := hide (fun w' h => cL.out w' (upU.out w' h))
      have hselfU := Below.refl U.heap.size U
      have hww := Nat.le_refl U.heap.size
      replace hVr := hide hVr
      replace hbel := hide hbel
      go_upto_region 22 with (fail)
      go_cut [8, 9] (fun s10 s11 wy => PairU U wy f (setBlocks f (cleanL f.blocks)) np b s10 s11)
      case first =>
        go_region_held3 (fun w' => Below U.heap.size U w') (first | (with_reducible assumption) | (with_reducible exact hselfU.drew) | ((repeat' with_reducible (first | assumption | exact hselfU.drew | exact Nat.le_refl _ | refine Below.drew ?_ | refine Below.setCell ?_ ?_ _ | refine Below.alloc ?_ ?_ _)) <;> (first | (show U.heap.size ≤ _; omega) | (show U.heap.size ≤ _; simp <;> omega))))
          (first
            | (go_at_call 18
               have hkk := hkY1
               refine (cLU.out _ (by assumption)).mono ?_
               rintro e Y2 h3
               obtain ⟨ch, dh, rfl, hTh, hbY2⟩ := copy_tr2 h3
               obtain ⟨Ah, Ch, Dh, Eh, e1, e2⟩ := hTh.form
               rw [hplen.out] at e1
               rw [hslen.out] at e2
               subst e1
               subst e2
               have hkY2 : Below U.heap.size U Y2 := below_next (by assumption) hww hbY2
               have hlY2 := hkY2.size
               obtain ⟨hc2, hf2⟩ := ubcell hbY2
               (try have hs4 : Y1.heap.size < Y2.heap.size := by have := hbY2.size; (try simp at this); omega)
               (try have hs4' : Y1.heap.size + 1 < Y2.heap.size := by have := hbY2.size; (try simp at this); omega)
               (try have hs5 : U.heap.size < Y2.heap.size := by have := hbY2.size; (try simp at this); omega)
               (try have hs5' : U.heap.size + 1 < Y2.heap.size := by have := hbY2.size; (try simp at this); omega)
               have hsY2 := hbY2.size
               (try simp at hsY2)
               have hThh := hide hTh
               have hbY2h := hide hbY2
               clear hTh h3 hbY2)
            | (go_at_call 18
               refine (cLU.out _ (by assumption)).mono ?_
               rintro e Y1 h3
               obtain ⟨cg, dg, rfl, hTg, hbY1⟩ := copy_tr2 h3
               obtain ⟨Ag, Cg, Dg, Eg, e1, e2⟩ := hTg.form
               rw [hplen.out] at e1
               rw [hslen.out] at e2
               subst e1
               subst e2
               have hkY1 : Below U.heap.size U Y1 := below_next (by assumption) hww hbY1
               have hlY1 := hkY1.size
               obtain ⟨hc1, hf1⟩ := ubcell hbY1
               (try have hs3 : U.heap.size < Y1.heap.size := by have := hbY1.size; (try simp at this); omega)
               (try have hs3' : U.heap.size + 1 < Y1.heap.size := by have := hbY1.size; (try simp at this); omega)
               have hsY1 := hbY1.size
               (try simp at hsY1)
               have hTgh := hide hTg
               have hbY1h := hide hbY1
               clear hTg h3 hbY1))
        all_goals go_wp2_with (fail)
        all_goals go_meet
        all_goals clear cLU cL cW hsm hsc hfh hF hmine horig upV upU hslen hplen hN3 hVs hwV hbel3 hb3 hbel2 y0 y1 y2 y3 r0 r1 r2 r3 yy0 yy1 yy2 yy3 rr0 rr1 rr2 rr3 hselfU hm2 hws hwsW hWs hfl hs3 hs23 hsWV hN3V hN3W hw3V hs2 hw2 hbelV hwWh hn hnp hn2 hTrX hR hTb hRb hVXh hVX hsVX hsVr hVr hbel hTV hlen hlenx
        all_goals refine ⟨_, _, _, _, _, _, _, _, _, _, _, _, _, _, rfl, rfl, hTgh.out.kept (fun k a b => by
            (try simp only [usz_alloc, usz_set, usz_drew] at a b)
            repeat' with_reducible (first | exact rfl | exact box_top _ _ | refine of_drewU ?_ | exact box_under _ _ _ | exact alloc_topU _ _ _ | exact alloc_topU4 _ _ _ _ _ _ _ _ _ _ | refine uset4z ?_ | refine set_far ?_ ?_ | refine one_alloc ?_ _ | refine (Below.heap_setCell _ _ _ _ ?_).trans ?_ | refine (Below.heap_alloc _ _ _ ?_).trans ?_ | refine (hbY2h.out.block _ ?_).trans ?_ | refine (hbY1h.out.block _ ?_).trans ?_)
            all_goals (first | (simp only [usz_alloc, usz_set, usz_drew]; omega) | omega)), hThh.out.kept (fun k a b => by
            (try simp only [usz_alloc, usz_set, usz_drew] at a b)
            repeat' with_reducible (first | exact rfl | exact box_top _ _ | refine of_drewU ?_ | exact box_under _ _ _ | exact alloc_topU _ _ _ | exact alloc_topU4 _ _ _ _ _ _ _ _ _ _ | refine uset4z ?_ | refine set_far ?_ ?_ | refine one_alloc ?_ _ | refine (Below.heap_setCell _ _ _ _ ?_).trans ?_ | refine (Below.heap_alloc _ _ _ ?_).trans ?_ | refine (hbY2h.out.block _ ?_).trans ?_ | refine (hbY1h.out.block _ ?_).trans ?_)
            all_goals (first | (simp only [usz_alloc, usz_set, usz_drew]; omega) | omega)), (by
            repeat' with_reducible (first | exact rfl | exact box_top _ _ | refine of_drewU ?_ | exact box_under _ _ _ | exact alloc_topU _ _ _ | exact alloc_topU4 _ _ _ _ _ _ _ _ _ _ | refine uset4z ?_ | refine set_far ?_ ?_ | refine one_alloc ?_ _ | refine (Below.heap_setCell _ _ _ _ ?_).trans ?_ | refine (Below.heap_alloc _ _ _ ?_).trans ?_ | refine (hbY2h.out.block _ ?_).trans ?_ | refine (hbY1h.out.block _ ?_).trans ?_)
            all_goals (first | (simp only [usz_alloc, usz_set, usz_drew]; omega) | omega)), (by
            repeat' with_reducible (first | exact rfl | exact box_top _ _ | refine of_drewU ?_ | exact box_under _ _ _ | exact alloc_topU _ _ _ | exact alloc_topU4 _ _ _ _ _ _ _ _ _ _ | refine uset4z ?_ | refine set_far ?_ ?_ | refine one_alloc ?_ _ | refine (Below.heap_setCell _ _ _ _ ?_).trans ?_ | refine (Below.heap_alloc _ _ _ ?_).trans ?_ | refine (hbY2h.out.block _ ?_).trans ?_ | refine (hbY1h.out.block _ ?_).trans ?_)
            all_goals (first | (simp only [usz_alloc, usz_set, usz_drew]; omega) | omega)), (by with_reducible assumption), ⟨(by (first | (simp only [usz_alloc, usz_set, usz_drew]; omega) | omega)), (by (first | (simp only [usz_alloc, usz_set, usz_drew]; omega) | omega)), (by (first | (simp only [usz_alloc, usz_set, usz_drew]; omega) | omega)), (by (first | (simp only [usz_alloc, usz_set, usz_drew]; omega) | omega)), (by (first | (simp only [usz_alloc, usz_set, usz_drew]; omega) | omega)), (by (first | (simp only [usz_alloc, usz_set, usz_drew]; omega) | omega)), (by (first | (simp only [usz_alloc, usz_set, usz_drew]; omega) | omega)), (by (first | (simp only [usz_alloc, usz_set, usz_drew]; omega) | omega))⟩, (by (first | (simp only [usz_alloc, usz_set, usz_drew]; omega) | omega)), (by (first | (simp only [usz_alloc, usz_set, usz_drew]; omega) | omega)), (by (first | (simp only [usz_alloc, usz_set, usz_drew]; omega) | omega)), (by (first | (simp only [usz_alloc, usz_set, usz_drew]; omega) | omega))⟩
      case rest =>
        obtain ⟨g, h, l1, m1, l2, m2, Ag, Cg, Dg, Eg, Ah, Ch, Dh, Eh, rfl, rfl, hTg, hTh, hbg, hbh, hbY, ⟨p1, p2, p3, p4, p5, p6, p7, p8⟩, o1, o2, o3, o4⟩ := hcut
        obtain ⟨Y, rfl⟩ : ∃ w : World, w = wc := ⟨_, rfl⟩
        have gl : g < Y.heap.size := (Array.getElem?_eq_some_iff.1 hbg).1
        have hl : h < Y.heap.size := (Array.getElem?_eq_some_iff.1 hbh).1
        have hUY := hbY.size
        have upY : Hid (∀ w', Below Y.heap.size Y w' → Below U.heap.size U w') := hide (fun w' h => hbY.trans (h.mono hUY))
        have z0 : ∀ w', Below Y.heap.size Y w' → w'.cell? ⟨w.heap.size, 0, none⟩ = some (.string f.name) := fun w' h => r0 w' (upY.out w' h)
        have z1 : ∀ w', Below Y.heap.size Y w' → w'.cell? ⟨w.heap.size, 1, none⟩ = some (.slice A1 np k1) := fun w' h => r1 w' (upY.out w' h)
        have z2 : ∀ w', Below Y.heap.size Y w' → w'.cell? ⟨w.heap.size, 2, none⟩ = some (.int .i64 f.ret) := fun w' h => r2 w' (upY.out w' h)
        have z3 : ∀ w', Below Y.heap.size Y w' → w'.cell? ⟨w.heap.size, 3, none⟩ = some (.slice A2 b k2) := fun w' h => r3 w' (upY.out w' h)
        have hselfY := Below.refl Y.heap.size Y
        have cWY := hide (cW.out Y (upU.out Y (upY.out Y hselfY)))
        replace hTg := hide hTg
        replace hTh := hide hTh
        replace hbg := hide hbg
        replace hbh := hide hbh
        replace hbY := hide hbY
        go_wp2_with (fail)
        refine cWY.out.mono ?_
        rintro e w6 h33
        obtain ⟨cw, dw, rfl, hTw, hb6⟩ := copy_tr2 h33
        obtain ⟨Aw, Cw, Dw, Ew, e1, e2⟩ := hTw.form
        rw [hplen.out] at e1
        rw [hslen.out] at e2
        subst e1
        subst e2
        have hs6 := hb6.size
        obtain ⟨X, hX, hwX, hXs, hxc⟩ := boxes1 w6 #[.string f.name, .slice Aw np Cw, .int .i64 f.ret, .slice Dw b Ew] 25
        have hbYX : Below Y.heap.size Y X := hb6.trans (hwX.mono hs6)
        have hYX := hbYX.size
        have hselfX := Below.refl X.heap.size X
        have gX : Hid (∀ w', Below X.heap.size X w' → Below Y.heap.size Y w') := hide (fun w' h => hbYX.trans (h.mono hYX))
        have g0 : ∀ w', Below X.heap.size X w' → w'.cell? ⟨g, 0, none⟩ = some (.string f.name) := fun w' h => box_cell hbg.out rfl gl (gX.out w' h)
        have g1 : ∀ w', Below X.heap.size X w' → w'.cell? ⟨g, 1, none⟩ = some (.slice Ag np Cg) := fun w' h => box_cell hbg.out rfl gl (gX.out w' h)
        have g2 : ∀ w', Below X.heap.size X w' → w'.cell? ⟨g, 2, none⟩ = some (.int .i64 f.ret) := fun w' h => box_cell hbg.out rfl gl (gX.out w' h)
        have g3 : ∀ w', Below X.heap.size X w' → w'.cell? ⟨g, 3, none⟩ = some (.slice Dg b Eg) := fun w' h => box_cell hbg.out rfl gl (gX.out w' h)
        have h0 : ∀ w', Below X.heap.size X w' → w'.cell? ⟨h, 0, none⟩ = some (.string f.name) := fun w' hh => box_cell hbh.out rfl hl (gX.out w' hh)
        have h1 : ∀ w', Below X.heap.size X w' → w'.cell? ⟨h, 1, none⟩ = some (.slice Ah np Ch) := fun w' hh => box_cell hbh.out rfl hl (gX.out w' hh)
        have h2 : ∀ w', Below X.heap.size X w' → w'.cell? ⟨h, 2, none⟩ = some (.int .i64 f.ret) := fun w' hh => box_cell hbh.out rfl hl (gX.out w' hh)
        have h3 : ∀ w', Below X.heap.size X w' → w'.cell? ⟨h, 3, none⟩ = some (.slice Dh b Eh) := fun w' hh => box_cell hbh.out rfl hl (gX.out w' hh)
        have i0 : ∀ w', Below X.heap.size X w' → w'.cell? ⟨N3, 0, none⟩ = some (.string f.name) := fun w' h => y0 w' (upY.out w' (gX.out w' h))
        have i1 : ∀ w', Below X.heap.size X w' → w'.cell? ⟨N3, 1, none⟩ = some (.slice Am np Cm) := fun w' h => y1 w' (upY.out w' (gX.out w' h))
        have i2 : ∀ w', Below X.heap.size X w' → w'.cell? ⟨N3, 2, none⟩ = some (.int .i64 f.ret) := fun w' h => y2 w' (upY.out w' (gX.out w' h))
        have i3 : ∀ w', Below X.heap.size X w' → w'.cell? ⟨N3, 3, none⟩ = some (.slice Dm b Em) := fun w' h => y3 w' (upY.out w' (gX.out w' h))
        have a0 : ∀ w', Below X.heap.size X w' → w'.cell? ⟨w.heap.size, 0, none⟩ = some (.string f.name) := fun w' h => r0 w' (upY.out w' (gX.out w' h))
        have a1 : ∀ w', Below X.heap.size X w' → w'.cell? ⟨w.heap.size, 1, none⟩ = some (.slice A1 np k1) := fun w' h => r1 w' (upY.out w' (gX.out w' h))
        have a2 : ∀ w', Below X.heap.size X w' → w'.cell? ⟨w.heap.size, 2, none⟩ = some (.int .i64 f.ret) := fun w' h => r2 w' (upY.out w' (gX.out w' h))
        have a3 : ∀ w', Below X.heap.size X w' → w'.cell? ⟨w.heap.size, 3, none⟩ = some (.slice A2 b k2) := fun w' h => r3 w' (upY.out w' (gX.out w' h))
        have e0 : ∀ w', Below X.heap.size X w' → w'.cell? ⟨w6.heap.size, 0, none⟩ = some (.string f.name) := hxc 0 _ rfl
        have e1 : ∀ w', Below X.heap.size X w' → w'.cell? ⟨w6.heap.size, 1, none⟩ = some (.slice Aw np Cw) := hxc 1 _ rfl
        have e2 : ∀ w', Below X.heap.size X w' → w'.cell? ⟨w6.heap.size, 2, none⟩ = some (.int .i64 f.ret) := hxc 2 _ rfl
        have e3 : ∀ w', Below X.heap.size X w' → w'.cell? ⟨w6.heap.size, 3, none⟩ = some (.slice Dw b Ew) := hxc 3 _ rfl
        have w63 : w6.heap.size < X.heap.size := by omega
        obtain ⟨N6, hN6⟩ : ∃ N6, N6 = w6.heap.size := ⟨_, rfl⟩
        have hN6X : N6 < X.heap.size := by omega
        have hN6Y : Y.heap.size ≤ N6 := by omega
        have hTgX : Hid (∀ w', Below X.heap.size X w' → Tr l1 m1 w' (setBlocks f (cleanL f.blocks)) (.slice Ag np Cg) (.slice Dg b Eg)) := hide (fun w' hh => hTg.out.kept fun k q1 q2 => (gX.out w' hh).block k (by omega))
        have hThX : Hid (∀ w', Below X.heap.size X w' → Tr l2 m2 w' (setBlocks f (cleanL f.blocks)) (.slice Ah np Ch) (.slice Dh b Eh)) := hide (fun w' hh => hTh.out.kept fun k q1 q2 => (gX.out w' hh).block k (by omega))
        have hTwX : Hid (∀ w', Below X.heap.size X w' → Tr Y.heap.size w6.heap.size w' (setBlocks f (cleanL f.blocks)) (.slice Aw np Cw) (.slice Dw b Ew)) := hide (fun w' hh => hTw.kept fun k q1 q2 => (hh.block k (by omega)).trans (hwX.block k q2))
        have hTmX : Hid (∀ w', Below X.heap.size X w' → Tr w2.heap.size w3.heap.size w' f (.slice Am np Cm) (.slice Dm b Em)) := hide (fun w' hh => hTV.out.kept fun k q1 q2 => (upU.out w' (upY.out w' (gX.out w' hh))).block k (by omega))
        have hwXb : Hid (∀ w', Below X.heap.size X w' → Below w.heap.size w w') := hide (fun w' hh => hwWh.out.trans ((upV.out w' (upU.out w' (upY.out w' (gX.out w' hh)))).mono hws))
        have hb1 : w.heap.size ≤ w2.heap.size := hw2.out.size
        have cF : Hid (∀ (G : Fun) (a1 a2 a3 a4 : Value) w', RFun.rep w' w'.heap.size [.string G.name, a1, .int .i64 G.ret, a2] G → RFun.rep w' w'.heap.size [.string G.name, a3, .int .i64 G.ret, a4] G → Calls Try.prog 20 #[G.v a1 a2, G.v a3 a4] w' fun e w'' => e = .returned (.bool true) ∧ Below w'.heap.size w' w'') := hide (fun G a1 a2 a3 a4 w' h1 h2 => by
          have := funcs_any G G a1 a2 a3 a4 w' w'.heap.size (Nat.le_refl _) h1 h2
          rwa [decide_eq_true rfl] at this)
        have rep : Hid (∀ (lo hi : Nat) (w' : World) (c d : Value), Tr lo hi w' (setBlocks f (cleanL f.blocks)) c d → RFun.rep w' w'.heap.size [.string f.name, c, .int .i64 f.ret, d] (setBlocks f (cleanL f.blocks))) := hide (fun lo hi w' c d hh => hh.rep (u1 := .bool true) (u2 := .bool true) hfh.out rfl rfl)
        have repm : Hid (∀ (lo hi : Nat) (w' : World) (c d : Value), Tr lo hi w' f c d → RFun.rep w' w'.heap.size [.string f.name, c, .int .i64 f.ret, d] f) := hide (fun lo hi w' c d hh => hh.rep (u1 := .bool true) (u2 := .bool true) hfh.out rfl rfl)
        have c1 : Hid (Calls Try.prog 20 #[f.v (.slice Ag np Cg) (.slice Dg b Eg), f.v (.slice Aw np Cw) (.slice Dw b Ew)] X fun e w'' => e = .returned (.bool true) ∧ Below X.heap.size X w'') := hide (cF.out (setBlocks f (cleanL f.blocks)) _ _ _ _ X (rep.out _ _ _ _ _ (hTgX.out X hselfX)) (rep.out _ _ _ _ _ (hTwX.out X hselfX)))
        replace hwX := hide hwX
        replace hXs := hide hXs
        replace hb6 := hide hb6
        replace hTw := hide hTw
        replace hbYX := hide hbYX
        clear h33 hxc z0 z1 z2 z3 r0 r1 r2 r3 y0 y1 y2 y3 yy0 yy1 yy2 yy3 rr0 rr1 rr2 rr3 cWY hselfY
        go_upto_region 24 with (fail)
        try rw [hX]
        clear hX
        rw [← hN6] at e0 e1 e2 e3 ⊢
        replace hN6 := hide hN6
        go_wp2_with (fail)
        refine c1.out.mono ?_
        rintro e t1 ⟨rfl, hb1'⟩
        have c2 := hide (cF.out f _ _ _ _ t1 (repm.out _ _ _ _ _ (hTmX.out t1 hb1')) (hF.out t1 (hwXb.out t1 hb1')))
        go_wp2_with (fail)
        refine c2.out.mono ?_
        rintro e t2 ⟨rfl, hb2'⟩
        have hX2 := hb1'.trans (hb2'.mono hb1'.size)
        clear hb1' hb2' c1 c2 hselfX
        have cG := hide (spoil_tree (hTgX.out t2 hX2) hsc.out)
        go_wp2_with (fail)
        refine cG.out.mono ?_
        rintro e v1 ⟨rfl, hO1⟩
        have hst2 := hX2.size
        have hO1s := hO1.size
        have f0 : v1.cell? ⟨N3, 0, none⟩ = some (.string f.name) := (hO1.cell (p := ⟨N3, 0, none⟩) (by show N3 < _; omega) (by show ¬ (l1 ≤ N3 ∧ N3 < m1); omega)).trans (i0 t2 hX2)
        have f1 : v1.cell? ⟨N3, 1, none⟩ = some (.slice Am np Cm) := (hO1.cell (p := ⟨N3, 1, none⟩) (by show N3 < _; omega) (by show ¬ (l1 ≤ N3 ∧ N3 < m1); omega)).trans (i1 t2 hX2)
        have f2 : v1.cell? ⟨N3, 2, none⟩ = some (.int .i64 f.ret) := (hO1.cell (p := ⟨N3, 2, none⟩) (by show N3 < _; omega) (by show ¬ (l1 ≤ N3 ∧ N3 < m1); omega)).trans (i2 t2 hX2)
        have f3 : v1.cell? ⟨N3, 3, none⟩ = some (.slice Dm b Em) := (hO1.cell (p := ⟨N3, 3, none⟩) (by show N3 < _; omega) (by show ¬ (l1 ≤ N3 ∧ N3 < m1); omega)).trans (i3 t2 hX2)
        have hTm1 := hide ((hTmX.out t2 hX2).kept (w' := v1) fun k q1 q2 => hO1.block k (by omega) (by omega))
        have cSm := hide (spoil_tree hTm1.out hsm.out)
        go_wp2_with (fail)
        refine cSm.out.mono ?_
        rintro e v2 ⟨rfl, hO2⟩
        have hO2s := hO2.size
        have both : ∀ k, k < t2.heap.size → ¬ (l1 ≤ k ∧ k < m1) → ¬ (w2.heap.size ≤ k ∧ k < w3.heap.size) → v2.heap[k]? = t2.heap[k]? := fun k h1 h2 h3 => (hO2.block k (by omega) h3).trans (hO1.block k h1 h2)
        have d0 : v2.cell? ⟨h, 0, none⟩ = some (.string f.name) := (World.cell?_of_block (a := ⟨h, 0, none⟩) (both h (by omega) (by omega) (by omega))).trans (h0 t2 hX2)
        have d1 : v2.cell? ⟨h, 1, none⟩ = some (.slice Ah np Ch) := (World.cell?_of_block (a := ⟨h, 1, none⟩) (both h (by omega) (by omega) (by omega))).trans (h1 t2 hX2)
        have d2 : v2.cell? ⟨h, 2, none⟩ = some (.int .i64 f.ret) := (World.cell?_of_block (a := ⟨h, 2, none⟩) (both h (by omega) (by omega) (by omega))).trans (h2 t2 hX2)
        have d3 : v2.cell? ⟨h, 3, none⟩ = some (.slice Dh b Eh) := (World.cell?_of_block (a := ⟨h, 3, none⟩) (both h (by omega) (by omega) (by omega))).trans (h3 t2 hX2)
        have c0 : v2.cell? ⟨N6, 0, none⟩ = some (.string f.name) := (World.cell?_of_block (a := ⟨N6, 0, none⟩) (both N6 (by omega) (by omega) (by omega))).trans (e0 t2 hX2)
        have c1 : v2.cell? ⟨N6, 1, none⟩ = some (.slice Aw np Cw) := (World.cell?_of_block (a := ⟨N6, 1, none⟩) (both N6 (by omega) (by omega) (by omega))).trans (e1 t2 hX2)
        have c2 : v2.cell? ⟨N6, 2, none⟩ = some (.int .i64 f.ret) := (World.cell?_of_block (a := ⟨N6, 2, none⟩) (both N6 (by omega) (by omega) (by omega))).trans (e2 t2 hX2)
        have c3 : v2.cell? ⟨N6, 3, none⟩ = some (.slice Dw b Ew) := (World.cell?_of_block (a := ⟨N6, 3, none⟩) (both N6 (by omega) (by omega) (by omega))).trans (e3 t2 hX2)
        have T5 := hide ((hThX.out t2 hX2).kept (w' := v2) fun k q1 q2 => both k (by omega) (by omega) (by omega))
        have T6 := hide ((hTwX.out t2 hX2).kept (w' := v2) fun k q1 q2 => both k (by omega) (by omega) (by omega))
        have cE : Hid (Calls Try.prog 20 #[f.v (.slice Ah np Ch) (.slice Dh b Eh), f.v (.slice Aw np Cw) (.slice Dw b Ew)] v2 fun e w'' => e = .returned (.bool true) ∧ Below v2.heap.size v2 w'') := hide (cF.out (setBlocks f (cleanL f.blocks)) _ _ _ _ v2 (rep.out _ _ _ _ _ T5.out) (rep.out _ _ _ _ _ T6.out))
        have hwu : Hid (Below w.heap.size w v2) := hide (((hwXb.out t2 hX2).trans (hO1.to_below (B' := w.heap.size) (fun k hk => by have := hk.1; omega) (by omega))).trans (hO2.to_below (B' := w.heap.size) (fun k hk => by have := hk.1; omega) (by omega)))
        go_wp2_with (fail)
        refine cE.out.mono ?_
        rintro e v3 ⟨rfl, hb9⟩
        have hfin : Hid (Below w.heap.size w v3) := hide (hwu.out.trans (hb9.mono hwu.out.size))
        go_wp2
        go_ret
        exact ⟨rfl, hfin.out⟩
end Go.Proofs.Ytkhlnopbgngjbaa
