/- The law IrCopies, walked. No condition but sizes. -/
import Derived.Test.YtaljdbmmjgmbbaaSpD
import Derived.Test.YtaljdbmmjgmbbaaIrH
import Derived.Test.YtaljdbmmjgmbbaaHm
import Derived.Deep.RegionLaw
namespace Go.Proofs.Ytaljdbmmjgmbbaa
open Go.RowKit
set_option linter.unusedSimpArgs false
set_option linter.unusedVariables false

theorem OwnX.form {w : World} {B : Nat} {v : Value} {l : List Ext} (h : OwnX w B v l) : ∃ A C, v = .slice A l.length C := by
  obtain ⟨xs, h1, -⟩ := h.more
  exact row_form h1
theorem OwnF.form {w : World} {B : Nat} {v : Value} {l : List Fun} (h : OwnF w B v l) : ∃ A C, v = .slice A l.length C := by
  obtain ⟨xs, h1, -⟩ := h.more
  exact row_form h1
theorem sz_set (w : World) (p : Addr) (v : Value) : (w.setCell p v).heap.size = w.heap.size := by simp [World.setCell]
theorem sz_alloc (w : World) (o : Obj) : (w.alloc o).heap.size = w.heap.size + 1 := by simp
theorem sz_drew (w : World) : w.drew.heap.size = w.heap.size := rfl
theorem bcellM {W w1 : World} (hb : Below W.heap.size W w1) : (∀ b o, b < W.heap.size → w1.cell? ⟨b, o, none⟩ = W.cell? ⟨b, o, none⟩) ∧ (∀ b o, b < W.heap.size → w1.frozen? ⟨b, o, none⟩ = W.frozen? ⟨b, o, none⟩) :=
  ⟨fun b o h => hb.cell (p := ⟨b, o, none⟩) h, fun b o h => hb.frozen (p := ⟨b, o, none⟩) h⟩
theorem set3z {w : World} {g : Nat} {x y z : Value} {t : TypeId} (h : w.heap[g]? = some (.cells #[.slice none 0 0, .slice none 0 0, .slice none 0 0] t (0, 0))) :
    (((w.setCell ⟨g, 0, none⟩ x).setCell ⟨g, 1, none⟩ y).setCell ⟨g, 2, none⟩ z).heap[g]? = some (.cells #[x, y, z] t (0, 0)) := by
  have h1 := set_heap (j := 0) (v := x) h
  have h2 := set_heap (j := 1) (v := y) h1
  have h3 := set_heap (j := 2) (v := z) h2
  simpa using h3
theorem of_drewM {w : World} {g : Nat} {x : Option Obj} (h : w.heap[g]? = x) : w.drew.heap[g]? = x := h
theorem alloc_topM (w : World) (o o' : Obj) : ((w.alloc o).alloc o').heap[w.heap.size + 1]? = some o' := by have := box_top (w.alloc o) o'; simpa using this
theorem alloc_top3 (w : World) (p q r : Addr) (x y z : Value) (o : Obj) : ((((w.setCell p x).setCell q y).setCell r z).alloc o).heap[w.heap.size]? = some o := by
  have := box_top (((w.setCell p x).setCell q y).setCell r z) o
  simpa only [sz_set] using this
theorem cell_later {w : World} {p : Addr} {u : Value} (h : w.cell? p = some u) (hp : p.block < w.heap.size) : ∀ w', Below w.heap.size w w' → w'.cell? p = some u := fun w' hb => (hb.cell hp).trans h
/-- two modules that calls have made, each in a box -/
def PairM (V wy : World) (m : Mod) (n1 n2 n3 : Nat) (s6 s7 : Value) : Prop :=
  ∃ (g h l1 m1 l2 m2 : Nat) (A : Option Addr) (C : Nat) (A' : Option Addr) (C' : Nat) (A'' : Option Addr) (C'' : Nat) (D : Option Addr) (E : Nat) (D' : Option Addr) (E' : Nat) (D'' : Option Addr) (E'' : Nat), s6 = .pointer (some ⟨g, 0, none⟩) ∧ s7 = .pointer (some ⟨h, 0, none⟩) ∧
    TrM l1 m1 wy m (.slice A n1 C) (.slice A' n2 C') (.slice A'' n3 C'') ∧ TrM l2 m2 wy m (.slice D n1 E) (.slice D' n2 E') (.slice D'' n3 E'') ∧
    wy.heap[g]? = some (.cells #[.slice A n1 C, .slice A' n2 C', .slice A'' n3 C''] 37 (0, 0)) ∧
    wy.heap[h]? = some (.cells #[.slice D n1 E, .slice D' n2 E', .slice D'' n3 E''] 37 (0, 0)) ∧
    Below V.heap.size V wy ∧ (V.heap.size ≤ l1 ∧ l1 ≤ m1 ∧ V.heap.size ≤ l2 ∧ l2 ≤ m2 ∧ m1 ≤ l2 ∧ m2 ≤ wy.heap.size ∧ V.heap.size ≤ g ∧ V.heap.size ≤ h ∧ g ≠ h) ∧
    (g < l1 ∨ m1 ≤ g) ∧ (g < l2 ∨ m2 ≤ g) ∧ (h < l1 ∨ m1 ≤ h) ∧ (h < l2 ∨ m2 ≤ h)


set_option maxRecDepth 100000 in
set_option maxHeartbeats 12800000 in
theorem law_copies (m p : Mod) (c1 d1 e1 c2 d2 e2 : Value) (w : World) (ha : RMod.rep w w.heap.size [c1, d1, e1] m) (hb : RMod.rep w w.heap.size [c2, d2, e2] p) (hs : SmallM m) :
    Calls Try.prog 12 #[m.v c1 d1 e1, p.v c2 d2 e2] w (LawPost w) := by
  obtain ⟨A1, k1, hca, -, -⟩ := Rp.slice_open (mod_open ha).1
  obtain ⟨A2, k2, hcb, -, -⟩ := exts_at (mod_open ha).2.1
  obtain ⟨A3, k3, hcc, -, -⟩ := funs_at (mod_open ha).2.2
  cases hca
  obtain ⟨E1, l1, hda, -, -⟩ := Rp.slice_open (mod_open hb).1
  obtain ⟨E2, l2, hdb, -, -⟩ := exts_at (mod_open hb).2.1
  obtain ⟨E3, l3, hdc, -, -⟩ := funs_at (mod_open hb).2.2
  cases hda
  obtain ⟨n1, hn1⟩ : ∃ n, Hid (n = m.vars.length) := ⟨_, hide rfl⟩
  obtain ⟨n2, hn2⟩ : ∃ n, Hid (n = m.exts.length) := ⟨_, hide rfl⟩
  obtain ⟨n3, hn3⟩ : ∃ n, Hid (n = m.funcs.length) := ⟨_, hide rfl⟩
  obtain ⟨o1, ho1⟩ : ∃ n, Hid (n = p.vars.length) := ⟨_, hide rfl⟩
  obtain ⟨o2, ho2⟩ : ∃ n, Hid (n = p.exts.length) := ⟨_, hide rfl⟩
  obtain ⟨o3, ho3⟩ : ∃ n, Hid (n = p.funcs.length) := ⟨_, hide rfl⟩
  rw [← hn2.out] at hcb
  rw [← hn3.out] at hcc
  rw [← ho2.out] at hdb
  rw [← ho3.out] at hdc
  subst hcb hcc hdb hdc
  rw [← hn1.out] at ha ⊢
  rw [← ho1.out] at hb ⊢
  obtain ⟨W, hW, hwW, hWs, hx, hy⟩ := boxes2 w #[.slice A1 n1 k1, .slice A2 n2 k2, .slice A3 n3 k3] #[.slice E1 o1 l1, .slice E2 o2 l2, .slice E3 o3 l3] 37 37
  have x1 : ∀ w', Below W.heap.size W w' → w'.cell? ⟨w.heap.size, 0, none⟩ = some (.slice A1 n1 k1) := hx 0 _ rfl
  have x2 : ∀ w', Below W.heap.size W w' → w'.cell? ⟨w.heap.size, 1, none⟩ = some (.slice A2 n2 k2) := hx 1 _ rfl
  have x3 : ∀ w', Below W.heap.size W w' → w'.cell? ⟨w.heap.size, 2, none⟩ = some (.slice A3 n3 k3) := hx 2 _ rfl
  have y1 : ∀ w', Below W.heap.size W w' → w'.cell? ⟨w.heap.size + 1, 0, none⟩ = some (.slice E1 o1 l1) := hy 0 _ rfl
  have y2 : ∀ w', Below W.heap.size W w' → w'.cell? ⟨w.heap.size + 1, 1, none⟩ = some (.slice E2 o2 l2) := hy 1 _ rfl
  have y3 : ∀ w', Below W.heap.size W w' → w'.cell? ⟨w.heap.size + 1, 2, none⟩ = some (.slice E3 o3 l3) := hy 2 _ rfl
  clear hx hy
  have hws : w.heap.size + 1 < W.heap.size := by omega
  have hws0 : w.heap.size ≤ W.heap.size := by omega
  replace hWs := hide hWs
  have hself := Below.refl W.heap.size W
  replace hW := hide hW
  have hwWh := hide hwW
  have hA : Hid (∀ w', Below w.heap.size w w' → RMod.rep w' w'.heap.size [.slice A1 n1 k1, .slice A2 n2 k2, .slice A3 n3 k3] m) := hide (fun w' h => RMod.later ha h h.size)
  have hP : Hid (∀ w', Below w.heap.size w w' → RMod.rep w' w'.heap.size [.slice E1 o1 l1, .slice E2 o2 l2, .slice E3 o3 l3] p) := hide (fun w' h => RMod.later hb h h.size)
  have upW : Hid (∀ w', Below W.heap.size W w' → Below w.heap.size w w') := hide (fun w' h => hwWh.out.trans (h.mono hws0))
  replace hs := hide hs
  clear ha hb hwW
  go_enter Try.func12, Try.ntmps12
  go_upto_region 1 with (fail)
  rw [hW.out]
  clear hW
  go_wp2_with fail
  refine (lives02 W).mono ?_
  rintro e w1 ⟨rfl, hb1⟩
  have hs1 := hb1.size
  obtain ⟨hv1, he1, hf1⟩ := mod_open (hA.out w1 (upW.out w1 hb1))
  have cF := hide (few_any m.vars m.exts m.funcs 20000 (.slice A1 n1 k1) (.slice A2 n2 k2) (.slice A3 n3 k3) w1 w1.heap.size (Nat.le_refl _) hv1 he1 hf1)
  clear hv1 he1 hf1 hself
  go_upto_region 3 with (fail)
  go_wp2_with fail
  refine cF.out.mono ?_
  rintro e w2 ⟨few, rfl, hb2⟩
  have hW2 := hb1.trans (hb2.mono hs1)
  clear cF hb1 hb2 hs1
  cases few with
  | false =>
    replace hW2 := hide hW2
    go_wp2
    go_ret
    exact ⟨rfl, upW.out _ hW2.out⟩
  | true =>
  have hs2 := hW2.size
  obtain ⟨hv1, he1, hf1⟩ := mod_open (hP.out w2 (upW.out w2 hW2))
  have cG := hide (few_any p.vars p.exts p.funcs 20000 (.slice E1 o1 l1) (.slice E2 o2 l2) (.slice E3 o3 l3) w2 w2.heap.size (Nat.le_refl _) hv1 he1 hf1)
  clear hv1 he1 hf1
  go_wp2_with fail
  refine cG.out.mono ?_
  rintro e w3 ⟨few, rfl, hb3⟩
  have hW3 := hW2.trans (hb3.mono hs2)
  clear cG hW2 hb3 hs2
  cases few with
  | false =>
    replace hW3 := hide hW3
    go_wp2
    go_ret
    exact ⟨rfl, upW.out _ hW3.out⟩
  | true =>
  obtain ⟨q, hq⟩ : ∃ q : Bool, Hid (decide (m = p) = q) := ⟨_, hide rfl⟩
  have g9 : (q != q) = false := by cases q <;> rfl
  have cS : Hid (∀ w', Below W.heap.size W w' → Calls Try.prog 45 #[m.v (.slice A1 n1 k1) (.slice A2 n2 k2) (.slice A3 n3 k3), p.v (.slice E1 o1 l1) (.slice E2 o2 l2) (.slice E3 o3 l3)] w' (EqPost q w')) := hide (fun w' h => by
    have := same_mod m p _ _ _ _ _ _ w' w'.heap.size (Nat.le_refl _) (hA.out w' (upW.out w' h)) (hP.out w' (upW.out w' h))
    rwa [hq.out] at this)
  have cR : Hid (∀ w', Below W.heap.size W w' → Calls Try.prog 46 #[m.v (.slice A1 n1 k1) (.slice A2 n2 k2) (.slice A3 n3 k3), p.v (.slice E1 o1 l1) (.slice E2 o2 l2) (.slice E3 o3 l3)] w' fun e w'' => e = .returned (.bool q) ∧ Below w'.heap.size w' w'') := hide (fun w' h => by
    have := same02_any m p _ _ _ _ _ _ w' w'.heap.size (Nat.le_refl _) (hA.out w' (upW.out w' h)) (hP.out w' (upW.out w' h))
    rwa [hq.out] at this)
  have cC : Hid (∀ w', Below W.heap.size W w' → Calls Try.prog 47 #[m.v (.slice A1 n1 k1) (.slice A2 n2 k2) (.slice A3 n3 k3)] w' (CopyMPost m w')) := hide (fun w' h => rcopy02_any m _ _ _ w' w'.heap.size (Nat.le_refl _) (hA.out w' (upW.out w' h)) hs.out)
  go_upto_region 5 with (fail)
  go_region_held3 (fun w' => Below W.heap.size W w') (first | (with_reducible assumption) | exact hW3.drew)
    (first
      | (go_at_call 45
         refine (cS3.out).mono ?_
         rintro e u4 ⟨rfl, hb4⟩
         have hk4 : Below W.heap.size W u4 := hk3.trans (hb4.mono hk3.size)
         clear hb4)
      | (go_at_call 47
         refine (cC.out _ hk2).mono ?_
         rintro e u3 h3
         obtain ⟨cc, dc, ec, rfl, hTc, hb3⟩ := copym_tr h3
         have hk3 : Below W.heap.size W u3 := hk2.trans (hb3.mono hk2.size)
         have cS3 : Hid (Calls Try.prog 45 #[m.v (.slice A1 n1 k1) (.slice A2 n2 k2) (.slice A3 n3 k3), m.v cc dc ec] u3 (EqPost true u3)) := hide (by
           have := same_mod m m _ _ _ cc dc ec u3 u3.heap.size (Nat.le_refl _) (hA.out u3 (upW.out u3 hk3)) hTc.rep
           rwa [decide_eq_true rfl] at this)
         clear hTc h3 hb3)
      | (go_at_call 46; refine (cR.out _ hk1).mono ?_; rintro e u2 ⟨rfl, hb2⟩; have hk2 : Below W.heap.size W u2 := hk1.trans (hb2.mono hk1.size); clear hb2)
      | (go_at_call 45; refine (cS.out _ (hW3.drew)).mono ?_; rintro e u1 ⟨rfl, hb1⟩; have hk1 : Below W.heap.size W u1 := (hW3.drew).trans (hb1.mono hW3.size); clear hb1))
  rename World => u4
  clear cS3 hk1 hk2 hk3 cS cR y1 y2 y3 hP hq g9
  -- MINE
  have hs4 := hk4.size
  have cC4 := hide (cC.out u4 hk4)
  go_upto_region 8 with (go_at_call 47; refine cC4.out.mono ?_; rintro e u5 h5; obtain ⟨cm, dm, em, rfl, hTm, hb5⟩ := copym_tr h5; obtain ⟨Am, Cm, Am', Cm', Am'', Cm'', fm1, fm2, fm3⟩ := hTm.form; rw [← hn1.out] at fm1; rw [← hn2.out] at fm2; rw [← hn3.out] at fm3; subst fm1 fm2 fm3)
  have hk5 := hk4.trans (hb5.mono hs4)
  have hs5 := hb5.size
  have hB5 := box_top u5 (.cells #[.slice Am n1 Cm, .slice Am' n2 Cm', .slice Am'' n3 Cm''] 37)
  have hV5 := (Below.refl u5.heap.size u5).alloc (Nat.le_refl _) (.cells #[.slice Am n1 Cm, .slice Am' n2 Cm', .slice Am'' n3 Cm''] 37)
  obtain ⟨V, hVe⟩ : ∃ V, V = u5.alloc (.cells #[.slice Am n1 Cm, .slice Am' n2 Cm', .slice Am'' n3 Cm''] 37) := ⟨_, rfl⟩
  have hVs : u5.heap.size < V.heap.size := by rw [hVe]; simp
  rw [← hVe] at hB5 hV5 ⊢
  clear hVe
  obtain ⟨N5, hN5⟩ : ∃ N5, N5 = u5.heap.size := ⟨_, rfl⟩
  have hN5V : N5 < V.heap.size := by omega
  rw [← hN5] at hB5 ⊢
  have hWV := hk5.trans (hV5.mono hk5.size)
  have hWVs := hWV.size
  have hTV := hide (hTm.kept (w' := V) fun k h1 h2 => hV5.block k h2)
  have hmine : Hid (∀ w', Below V.heap.size V w' → TrM u4.heap.size u5.heap.size w' m (.slice Am n1 Cm) (.slice Am' n2 Cm') (.slice Am'' n3 Cm'')) := hide (fun w' h => hTV.out.kept fun k h1 h2 => h.block k (by omega))
  have upV : Hid (∀ w', Below V.heap.size V w' → Below W.heap.size W w') := hide (fun w' h => hWV.trans (h.mono hWVs))
  have z1 : ∀ w', Below V.heap.size V w' → w'.cell? ⟨N5, 0, none⟩ = some (.slice Am n1 Cm) := fun w' h => box_cell hB5 rfl hN5V h
  have z2 : ∀ w', Below V.heap.size V w' → w'.cell? ⟨N5, 1, none⟩ = some (.slice Am' n2 Cm') := fun w' h => box_cell hB5 rfl hN5V h
  have z3 : ∀ w', Below V.heap.size V w' → w'.cell? ⟨N5, 2, none⟩ = some (.slice Am'' n3 Cm'') := fun w' h => box_cell hB5 rfl hN5V h
  have r1 : ∀ w', Below V.heap.size V w' → w'.cell? ⟨w.heap.size, 0, none⟩ = some (.slice A1 n1 k1) := fun w' h => x1 w' (upV.out w' h)
  have r2 : ∀ w', Below V.heap.size V w' → w'.cell? ⟨w.heap.size, 1, none⟩ = some (.slice A2 n2 k2) := fun w' h => x2 w' (upV.out w' h)
  have r3 : ∀ w', Below V.heap.size V w' → w'.cell? ⟨w.heap.size, 2, none⟩ = some (.slice A3 n3 k3) := fun w' h => x3 w' (upV.out w' h)
  have cK : Hid (∀ w', Below V.heap.size V w' → Calls Try.prog 48 #[m.v (.slice Am n1 Cm) (.slice Am' n2 Cm') (.slice Am'' n3 Cm'')] w' (CopyMPost m w')) := hide (fun w' h => icopy_any m _ _ _ w' w'.heap.size (Nat.le_refl _) (hmine.out w' h).rep hs.out)
  have hselfV := Below.refl V.heap.size V
  have hww := Nat.le_refl V.heap.size
  have hu45 : u4.heap.size ≤ u5.heap.size := hs5
  have hw4 : w.heap.size + 1 < u4.heap.size := by omega
  replace hN5 := hide hN5
  replace hB5 := hide hB5
  replace hV5 := hide hV5
  replace hWV := hide hWV
  replace hTm := hide hTm
  replace hb5 := hide hb5
  replace hk4 := hide hk4
  replace hk5 := hide hk5
  clear x1 x2 x3 cC cC4 h5 hW3
  go_cut [6, 7] (fun s6 s7 wy => PairM V wy m n1 n2 n3 s6 s7)
  case first =>
    go_region_held3 (fun w' => Below V.heap.size V w') (first | (with_reducible assumption) | (with_reducible exact hselfV.drew) | ((repeat' with_reducible (first | assumption | exact hselfV.drew | exact Nat.le_refl _ | refine Below.drew ?_ | refine Below.setCell ?_ ?_ _ | refine Below.alloc ?_ ?_ _)) <;> (first | (show V.heap.size ≤ _; omega) | (show V.heap.size ≤ _; simp <;> omega))))
      (first
        | (go_at_call 48
           have hkk := hkY1
           refine (cK.out _ (by assumption)).mono ?_
           rintro e Y2 h3
           obtain ⟨ch, dh, eh, rfl, hTh, hbY2⟩ := copym_tr h3
           obtain ⟨Ah, Ch, Ah', Ch', Ah'', Ch'', e1, e2, e3⟩ := hTh.form
           rw [← hn1.out] at e1
           rw [← hn2.out] at e2
           rw [← hn3.out] at e3
           subst e1 e2 e3
           have hkY2 : Below V.heap.size V Y2 := below_next (by assumption) hww hbY2
           have hlY2 := hkY2.size
           obtain ⟨hc2, hf2⟩ := bcellM hbY2
           (try have hs4 : Y1.heap.size < Y2.heap.size := by have := hbY2.size; (try simp at this); omega)
           (try have hs4' : Y1.heap.size + 1 < Y2.heap.size := by have := hbY2.size; (try simp at this); omega)
           (try have hs5 : V.heap.size < Y2.heap.size := by have := hbY2.size; (try simp at this); omega)
           (try have hs5' : V.heap.size + 1 < Y2.heap.size := by have := hbY2.size; (try simp at this); omega)
           have hsY2 := hbY2.size
           (try simp at hsY2)
           have hThh := hide hTh
           have hbY2h := hide hbY2
           clear hTh h3 hbY2)
        | (go_at_call 48
           refine (cK.out _ (by assumption)).mono ?_
           rintro e Y1 h3
           obtain ⟨cg, dg, eg, rfl, hTg, hbY1⟩ := copym_tr h3
           obtain ⟨Ag, Cg, Ag', Cg', Ag'', Cg'', e1, e2, e3⟩ := hTg.form
           rw [← hn1.out] at e1
           rw [← hn2.out] at e2
           rw [← hn3.out] at e3
           subst e1 e2 e3
           have hkY1 : Below V.heap.size V Y1 := below_next (by assumption) hww hbY1
           have hlY1 := hkY1.size
           obtain ⟨hc1, hf1⟩ := bcellM hbY1
           (try have hs3 : V.heap.size < Y1.heap.size := by have := hbY1.size; (try simp at this); omega)
           (try have hs3' : V.heap.size + 1 < Y1.heap.size := by have := hbY1.size; (try simp at this); omega)
           have hsY1 := hbY1.size
           (try simp at hsY1)
           have hTgh := hide hTg
           have hbY1h := hide hbY1
           clear hTg h3 hbY1))
    all_goals go_wp2_with (fail)
    all_goals go_meet
    all_goals clear cK hs hA hTV hmine upV hN5 hB5 hV5 hWV hTm hb5 hk4 hk5 z1 z2 z3 r1 r2 r3 hselfV hws hws0 hWs hwWh upW hVs hN5V hWVs hn1 hn2 hn3 ho1 ho2 ho3 hs5 hs4 hu45 hw4
    all_goals refine ⟨_, _, _, _, _, _, _, _, _, _, _, _, _, _, _, _, _, _, rfl, rfl, hTgh.out.kept (fun k a b => by
        (try simp only [sz_alloc, sz_set, sz_drew] at a b)
        repeat' with_reducible (first | exact rfl | exact box_top _ _ | refine of_drewM ?_ | exact box_under _ _ _ | exact alloc_topM _ _ _ | exact alloc_top3 _ _ _ _ _ _ _ _ | refine set3z ?_ | refine set_far ?_ ?_ | refine one_alloc ?_ _ | refine (Below.heap_setCell _ _ _ _ ?_).trans ?_ | refine (Below.heap_alloc _ _ _ ?_).trans ?_ | refine (hbY2h.out.block _ ?_).trans ?_ | refine (hbY1h.out.block _ ?_).trans ?_)
        all_goals (first | (simp only [sz_alloc, sz_set, sz_drew]; omega) | omega)), hThh.out.kept (fun k a b => by
        (try simp only [sz_alloc, sz_set, sz_drew] at a b)
        repeat' with_reducible (first | exact rfl | exact box_top _ _ | refine of_drewM ?_ | exact box_under _ _ _ | exact alloc_topM _ _ _ | exact alloc_top3 _ _ _ _ _ _ _ _ | refine set3z ?_ | refine set_far ?_ ?_ | refine one_alloc ?_ _ | refine (Below.heap_setCell _ _ _ _ ?_).trans ?_ | refine (Below.heap_alloc _ _ _ ?_).trans ?_ | refine (hbY2h.out.block _ ?_).trans ?_ | refine (hbY1h.out.block _ ?_).trans ?_)
        all_goals (first | (simp only [sz_alloc, sz_set, sz_drew]; omega) | omega)), (by
        repeat' with_reducible (first | exact rfl | exact box_top _ _ | refine of_drewM ?_ | exact box_under _ _ _ | exact alloc_topM _ _ _ | exact alloc_top3 _ _ _ _ _ _ _ _ | refine set3z ?_ | refine set_far ?_ ?_ | refine one_alloc ?_ _ | refine (Below.heap_setCell _ _ _ _ ?_).trans ?_ | refine (Below.heap_alloc _ _ _ ?_).trans ?_ | refine (hbY2h.out.block _ ?_).trans ?_ | refine (hbY1h.out.block _ ?_).trans ?_)
        all_goals (first | (simp only [sz_alloc, sz_set, sz_drew]; omega) | omega)), (by
        repeat' with_reducible (first | exact rfl | exact box_top _ _ | refine of_drewM ?_ | exact box_under _ _ _ | exact alloc_topM _ _ _ | exact alloc_top3 _ _ _ _ _ _ _ _ | refine set3z ?_ | refine set_far ?_ ?_ | refine one_alloc ?_ _ | refine (Below.heap_setCell _ _ _ _ ?_).trans ?_ | refine (Below.heap_alloc _ _ _ ?_).trans ?_ | refine (hbY2h.out.block _ ?_).trans ?_ | refine (hbY1h.out.block _ ?_).trans ?_)
        all_goals (first | (simp only [sz_alloc, sz_set, sz_drew]; omega) | omega)), (by with_reducible assumption), ⟨(by (first | (simp only [sz_alloc, sz_set, sz_drew]; omega) | omega)), (by (first | (simp only [sz_alloc, sz_set, sz_drew]; omega) | omega)), (by (first | (simp only [sz_alloc, sz_set, sz_drew]; omega) | omega)), (by (first | (simp only [sz_alloc, sz_set, sz_drew]; omega) | omega)), (by (first | (simp only [sz_alloc, sz_set, sz_drew]; omega) | omega)), (by (first | (simp only [sz_alloc, sz_set, sz_drew]; omega) | omega)), (by (first | (simp only [sz_alloc, sz_set, sz_drew]; omega) | omega)), (by (first | (simp only [sz_alloc, sz_set, sz_drew]; omega) | omega)), (by (first | (simp only [sz_alloc, sz_set, sz_drew]; omega) | omega))⟩, (by (first | (simp only [sz_alloc, sz_set, sz_drew]; omega) | omega)), (by (first | (simp only [sz_alloc, sz_set, sz_drew]; omega) | omega)), (by (first | (simp only [sz_alloc, sz_set, sz_drew]; omega) | omega)), (by (first | (simp only [sz_alloc, sz_set, sz_drew]; omega) | omega))⟩
  case rest =>
  obtain ⟨g, h, l1, m1, l2, m2, Ag, Cg, Ag', Cg', Ag'', Cg'', Ah, Ch, Ah', Ch', Ah'', Ch'', rfl, rfl, hTg, hTh, hbg, hbh, hbY, ⟨p1, p2, p3, p4, p5, p6, p7, p8, p9⟩, q1, q2, q3, q4⟩ := hcut
  obtain ⟨Y, rfl⟩ : ∃ w : World, w = wc := ⟨_, rfl⟩
  have gl : g < Y.heap.size := (Array.getElem?_eq_some_iff.1 hbg).1
  have hl : h < Y.heap.size := (Array.getElem?_eq_some_iff.1 hbh).1
  have hVY := hbY.size
  have hwY : Hid (Below w.heap.size w Y) := hide (upW.out Y (upV.out Y hbY))
  have sg1 : ∀ w', Below Y.heap.size Y w' → w'.cell? ⟨g, 0, none⟩ = some (.slice Ag n1 Cg) := fun w' hb => box_cell hbg rfl gl hb
  have sg2 : ∀ w', Below Y.heap.size Y w' → w'.cell? ⟨g, 1, none⟩ = some (.slice Ag' n2 Cg') := fun w' hb => box_cell hbg rfl gl hb
  have sg3 : ∀ w', Below Y.heap.size Y w' → w'.cell? ⟨g, 2, none⟩ = some (.slice Ag'' n3 Cg'') := fun w' hb => box_cell hbg rfl gl hb
  have sh1 : ∀ w', Below Y.heap.size Y w' → w'.cell? ⟨h, 0, none⟩ = some (.slice Ah n1 Ch) := fun w' hb => box_cell hbh rfl hl hb
  have sh2 : ∀ w', Below Y.heap.size Y w' → w'.cell? ⟨h, 1, none⟩ = some (.slice Ah' n2 Ch') := fun w' hb => box_cell hbh rfl hl hb
  have sh3 : ∀ w', Below Y.heap.size Y w' → w'.cell? ⟨h, 2, none⟩ = some (.slice Ah'' n3 Ch'') := fun w' hb => box_cell hbh rfl hl hb
  have sm1 : ∀ w', Below Y.heap.size Y w' → w'.cell? ⟨N5, 0, none⟩ = some (.slice Am n1 Cm) := fun w' hb => z1 w' (hbY.trans (hb.mono hVY))
  have sa1 : ∀ w', Below Y.heap.size Y w' → w'.cell? ⟨w.heap.size, 0, none⟩ = some (.slice A1 n1 k1) := fun w' hb => r1 w' (hbY.trans (hb.mono hVY))
  have sm2 : ∀ w', Below Y.heap.size Y w' → w'.cell? ⟨N5, 1, none⟩ = some (.slice Am' n2 Cm') := fun w' hb => z2 w' (hbY.trans (hb.mono hVY))
  have sa2 : ∀ w', Below Y.heap.size Y w' → w'.cell? ⟨w.heap.size, 1, none⟩ = some (.slice A2 n2 k2) := fun w' hb => r2 w' (hbY.trans (hb.mono hVY))
  have sm3 : ∀ w', Below Y.heap.size Y w' → w'.cell? ⟨N5, 2, none⟩ = some (.slice Am'' n3 Cm'') := fun w' hb => z3 w' (hbY.trans (hb.mono hVY))
  have sa3 : ∀ w', Below Y.heap.size Y w' → w'.cell? ⟨w.heap.size, 2, none⟩ = some (.slice A3 n3 k3) := fun w' hb => r3 w' (hbY.trans (hb.mono hVY))
  have hTgY : Hid (∀ w', Below Y.heap.size Y w' → TrM l1 m1 w' m (.slice Ag n1 Cg) (.slice Ag' n2 Cg') (.slice Ag'' n3 Cg'')) := hide (fun w' hb => hTg.kept fun k a b => hb.block k (by omega))
  have hThY : Hid (∀ w', Below Y.heap.size Y w' → TrM l2 m2 w' m (.slice Ah n1 Ch) (.slice Ah' n2 Ch') (.slice Ah'' n3 Ch'')) := hide (fun w' hb => hTh.kept fun k a b => hb.block k (by omega))
  have hTmY : Hid (∀ w', Below Y.heap.size Y w' → TrM u4.heap.size u5.heap.size w' m (.slice Am n1 Cm) (.slice Am' n2 Cm') (.slice Am'' n3 Cm'')) := hide (fun w' hb => hmine.out w' (hbY.trans (hb.mono hVY)))
  have cs : Hid (∀ (a1 a2 a3 : Value) w', RMod.rep w' w'.heap.size [a1, a2, a3] m → Below w.heap.size w w' → Calls Try.prog 46 #[m.v a1 a2 a3, m.v (.slice A1 n1 k1) (.slice A2 n2 k2) (.slice A3 n3 k3)] w' fun e w'' => e = .returned (.bool true) ∧ Below w'.heap.size w' w'') := hide (fun a1 a2 a3 w' hr hb => by
    have := same02_any m m a1 a2 a3 _ _ _ w' w'.heap.size (Nat.le_refl _) hr (hA.out w' hb)
    rwa [decide_eq_true rfl] at this)
  have hselfY := Below.refl Y.heap.size Y
  have c1 := hide (cs.out _ _ _ Y (hTgY.out Y hselfY).rep hwY.out)
  replace hTg := hide hTg
  replace hTh := hide hTh
  replace hbg := hide hbg
  replace hbh := hide hbh
  replace hbY := hide hbY
  clear z1 z2 z3 r1 r2 r3 cK hselfV hTV hmine upV hWV hV5 hB5 hTm hb5 hk4 hk5
  go_wp2_with fail
  refine c1.out.mono ?_
  rintro e t1 ⟨rfl, hb1⟩
  have c2 := hide (cs.out _ _ _ t1 (hThY.out t1 hb1).rep (hwY.out.trans (hb1.mono hwY.out.size)))
  go_wp2_with fail
  refine c2.out.mono ?_
  rintro e t2 ⟨rfl, hb2⟩
  have hY2 := hb1.trans (hb2.mono hb1.size)
  clear hb1 hb2 c1 c2
  have c3 := hide (cs.out _ _ _ t2 (hTmY.out t2 hY2).rep (hwY.out.trans (hY2.mono hwY.out.size)))
  go_wp2_with fail
  refine c3.out.mono ?_
  rintro e t3 ⟨rfl, hb3⟩
  have hY3 := hY2.trans (hb3.mono hY2.size)
  clear c3 hb3 hY2 hselfY
  have cG := hide (spoil_mod (hTgY.out t3 hY3) hs.out)
  go_wp2_with fail
  refine cG.out.mono ?_
  rintro e t4 ⟨rfl, hO4⟩
  have hs3 := hY3.size
  have hs4' := hO4.size
  have hw4' : Hid (Below w.heap.size w t4) := hide ((hwY.out.trans (hY3.mono hwY.out.size)).trans (hO4.to_below (B' := w.heap.size) (fun k hk => by have := hk.1; omega) (by omega)))
  have th1 : ∀ w', Below t4.heap.size t4 w' → w'.cell? ⟨h, 0, none⟩ = some (.slice Ah n1 Ch) := cell_later ((hO4.cell (p := ⟨h, 0, none⟩) (by show h < _; omega) (by show ¬ (l1 ≤ h ∧ h < m1); omega)).trans (sh1 t3 hY3)) (by show h < _; omega)
  have th2 : ∀ w', Below t4.heap.size t4 w' → w'.cell? ⟨h, 1, none⟩ = some (.slice Ah' n2 Ch') := cell_later ((hO4.cell (p := ⟨h, 1, none⟩) (by show h < _; omega) (by show ¬ (l1 ≤ h ∧ h < m1); omega)).trans (sh2 t3 hY3)) (by show h < _; omega)
  have th3 : ∀ w', Below t4.heap.size t4 w' → w'.cell? ⟨h, 2, none⟩ = some (.slice Ah'' n3 Ch'') := cell_later ((hO4.cell (p := ⟨h, 2, none⟩) (by show h < _; omega) (by show ¬ (l1 ≤ h ∧ h < m1); omega)).trans (sh3 t3 hY3)) (by show h < _; omega)
  have tm1 : ∀ w', Below t4.heap.size t4 w' → w'.cell? ⟨N5, 0, none⟩ = some (.slice Am n1 Cm) := cell_later ((hO4.cell (p := ⟨N5, 0, none⟩) (by show N5 < _; omega) (by show ¬ (l1 ≤ N5 ∧ N5 < m1); omega)).trans (sm1 t3 hY3)) (by show N5 < _; omega)
  have tm2 : ∀ w', Below t4.heap.size t4 w' → w'.cell? ⟨N5, 1, none⟩ = some (.slice Am' n2 Cm') := cell_later ((hO4.cell (p := ⟨N5, 1, none⟩) (by show N5 < _; omega) (by show ¬ (l1 ≤ N5 ∧ N5 < m1); omega)).trans (sm2 t3 hY3)) (by show N5 < _; omega)
  have tm3 : ∀ w', Below t4.heap.size t4 w' → w'.cell? ⟨N5, 2, none⟩ = some (.slice Am'' n3 Cm'') := cell_later ((hO4.cell (p := ⟨N5, 2, none⟩) (by show N5 < _; omega) (by show ¬ (l1 ≤ N5 ∧ N5 < m1); omega)).trans (sm3 t3 hY3)) (by show N5 < _; omega)
  have ta1 : ∀ w', Below t4.heap.size t4 w' → w'.cell? ⟨w.heap.size, 0, none⟩ = some (.slice A1 n1 k1) := cell_later ((hO4.cell (p := ⟨w.heap.size, 0, none⟩) (by show w.heap.size < _; omega) (by show ¬ (l1 ≤ w.heap.size ∧ w.heap.size < m1); omega)).trans (sa1 t3 hY3)) (by show w.heap.size < _; omega)
  have ta2 : ∀ w', Below t4.heap.size t4 w' → w'.cell? ⟨w.heap.size, 1, none⟩ = some (.slice A2 n2 k2) := cell_later ((hO4.cell (p := ⟨w.heap.size, 1, none⟩) (by show w.heap.size < _; omega) (by show ¬ (l1 ≤ w.heap.size ∧ w.heap.size < m1); omega)).trans (sa2 t3 hY3)) (by show w.heap.size < _; omega)
  have ta3 : ∀ w', Below t4.heap.size t4 w' → w'.cell? ⟨w.heap.size, 2, none⟩ = some (.slice A3 n3 k3) := cell_later ((hO4.cell (p := ⟨w.heap.size, 2, none⟩) (by show w.heap.size < _; omega) (by show ¬ (l1 ≤ w.heap.size ∧ w.heap.size < m1); omega)).trans (sa3 t3 hY3)) (by show w.heap.size < _; omega)
  have hTh4 : Hid (∀ w', Below t4.heap.size t4 w' → TrM l2 m2 w' m (.slice Ah n1 Ch) (.slice Ah' n2 Ch') (.slice Ah'' n3 Ch'')) := hide (fun w' hb => ((hThY.out t3 hY3).kept (w' := t4) fun k a b => hO4.block k (by omega) (by omega)).kept fun k a b => hb.block k (by omega))
  have hTm4 : Hid (∀ w', Below t4.heap.size t4 w' → TrM u4.heap.size u5.heap.size w' m (.slice Am n1 Cm) (.slice Am' n2 Cm') (.slice Am'' n3 Cm'')) := hide (fun w' hb => ((hTmY.out t3 hY3).kept (w' := t4) fun k a b => hO4.block k (by omega) (by omega)).kept fun k a b => hb.block k (by omega))
  have hself4 := Below.refl t4.heap.size t4
  have d1 := hide (cs.out _ _ _ t4 (hTh4.out t4 hself4).rep hw4'.out)
  replace hO4 := hide hO4
  clear sg1 sg2 sg3 sh1 sh2 sh3 sm1 sm2 sm3 sa1 sa2 sa3 cG
  go_wp2_with fail
  refine d1.out.mono ?_
  rintro e t5 ⟨rfl, hb5⟩
  have d2 := hide (cs.out _ _ _ t5 (hTm4.out t5 hb5).rep (hw4'.out.trans (hb5.mono hw4'.out.size)))
  go_wp2_with fail
  refine d2.out.mono ?_
  rintro e t6 ⟨rfl, hb6⟩
  have h46 := hb5.trans (hb6.mono hb5.size)
  clear hb5 hb6 d1 d2 hself4
  have cM := hide (spoil_mod (hTm4.out t6 h46) hs.out)
  go_wp2_with fail
  refine cM.out.mono ?_
  rintro e t7 ⟨rfl, hO7⟩
  have hs46 := h46.size
  have hs67 := hO7.size
  have hw7 : Hid (Below w.heap.size w t7) := hide ((hw4'.out.trans (h46.mono hw4'.out.size)).trans (hO7.to_below (B' := w.heap.size) (fun k hk => by have := hk.1; omega) (by omega)))
  have vh1 : t7.cell? ⟨h, 0, none⟩ = some (.slice Ah n1 Ch) := (hO7.cell (p := ⟨h, 0, none⟩) (by show h < _; omega) (by show ¬ (u4.heap.size ≤ h ∧ h < u5.heap.size); omega)).trans (th1 t6 h46)
  have vh2 : t7.cell? ⟨h, 1, none⟩ = some (.slice Ah' n2 Ch') := (hO7.cell (p := ⟨h, 1, none⟩) (by show h < _; omega) (by show ¬ (u4.heap.size ≤ h ∧ h < u5.heap.size); omega)).trans (th2 t6 h46)
  have vh3 : t7.cell? ⟨h, 2, none⟩ = some (.slice Ah'' n3 Ch'') := (hO7.cell (p := ⟨h, 2, none⟩) (by show h < _; omega) (by show ¬ (u4.heap.size ≤ h ∧ h < u5.heap.size); omega)).trans (th3 t6 h46)
  have va1 : t7.cell? ⟨w.heap.size, 0, none⟩ = some (.slice A1 n1 k1) := (hO7.cell (p := ⟨w.heap.size, 0, none⟩) (by show w.heap.size < _; omega) (by show ¬ (u4.heap.size ≤ w.heap.size ∧ w.heap.size < u5.heap.size); omega)).trans (ta1 t6 h46)
  have va2 : t7.cell? ⟨w.heap.size, 1, none⟩ = some (.slice A2 n2 k2) := (hO7.cell (p := ⟨w.heap.size, 1, none⟩) (by show w.heap.size < _; omega) (by show ¬ (u4.heap.size ≤ w.heap.size ∧ w.heap.size < u5.heap.size); omega)).trans (ta2 t6 h46)
  have va3 : t7.cell? ⟨w.heap.size, 2, none⟩ = some (.slice A3 n3 k3) := (hO7.cell (p := ⟨w.heap.size, 2, none⟩) (by show w.heap.size < _; omega) (by show ¬ (u4.heap.size ≤ w.heap.size ∧ w.heap.size < u5.heap.size); omega)).trans (ta3 t6 h46)
  have hTh7 := hide ((hTh4.out t6 h46).kept (w' := t7) fun k a b => hO7.block k (by omega) (by omega))
  have f1 := hide (cs.out _ _ _ t7 hTh7.out.rep hw7.out)
  replace hO7 := hide hO7
  clear th1 th2 th3 tm1 tm2 tm3 ta1 ta2 ta3 cM
  go_wp2_with fail
  refine f1.out.mono ?_
  rintro e t8 ⟨rfl, hb8⟩
  have hfin : Hid (Below w.heap.size w t8) := hide (hw7.out.trans (hb8.mono hw7.out.size))
  go_wp2
  go_ret
  exact ⟨rfl, hfin.out⟩
end Go.Proofs.Ytaljdbmmjgmbbaa
