/- The law IrReplaces, walked. No condition but sizes. -/
import Derived.Test.YtaljdbmmjgmbbaaTr
import Derived.Test.YtaljdbmmjgmbbaaIcK
import Derived.Test.YtaljdbmmjgmbbaaEqB
import Derived.Test.YtaljdbmmjgmbbaaIcG
import Derived.Test.YtaljdbmmjgmbbaaIcM
import Derived.Test.YtaljdbmmjgmbbaaIrC
import Derived.Test.YtaljdbmmjgmbbaaIrH
import Derived.Deep.RegionLaw
namespace Go.Proofs.Ytaljdbmmjgmbbaa
open Go.RowKit
set_option linter.unusedSimpArgs false
set_option linter.unusedVariables false

theorem setCell_size (w : World) (p : Addr) (v : Value) : (w.setCell p v).heap.size = w.heap.size := by simp [World.setCell]
theorem bcell {W w1 : World} (hb : Below W.heap.size W w1) : (∀ b o, b < W.heap.size → w1.cell? ⟨b, o, none⟩ = W.cell? ⟨b, o, none⟩) ∧ (∀ b o, b < W.heap.size → w1.frozen? ⟨b, o, none⟩ = W.frozen? ⟨b, o, none⟩) :=
  ⟨fun b o h => hb.cell (p := ⟨b, o, none⟩) h, fun b o h => hb.frozen (p := ⟨b, o, none⟩) h⟩
theorem alloc_sz (w : World) (o : Obj) : (w.alloc o).heap.size = w.heap.size + 1 := by simp
theorem drew_sz (w : World) : w.drew.heap.size = w.heap.size := rfl
theorem set4 {w : World} {g : Nat} {a b c d x y z u : Value} {t : TypeId} (h : w.heap[g]? = some (.cells #[a, b, c, d] t (0, 0))) :
    ((((w.setCell ⟨g, 0, none⟩ x).setCell ⟨g, 1, none⟩ y).setCell ⟨g, 2, none⟩ z).setCell ⟨g, 3, none⟩ u).heap[g]? = some (.cells #[x, y, z, u] t (0, 0)) := by
  have h1 := set_heap (j := 0) (v := x) h
  have h2 := set_heap (j := 1) (v := y) h1
  have h3 := set_heap (j := 2) (v := z) h2
  have h4 := set_heap (j := 3) (v := u) h3
  simpa using h4
theorem set4z {w : World} {g : Nat} {x y z u : Value} {t : TypeId} (h : w.heap[g]? = some (.cells #[.string ⟨#[]⟩, .slice none 0 0, .int .i64 0, .slice none 0 0] t (0, 0))) :
    ((((w.setCell ⟨g, 0, none⟩ x).setCell ⟨g, 1, none⟩ y).setCell ⟨g, 2, none⟩ z).setCell ⟨g, 3, none⟩ u).heap[g]? = some (.cells #[x, y, z, u] t (0, 0)) := set4 h
theorem of_drew {w : World} {g : Nat} {x : Option Obj} (h : w.heap[g]? = x) : w.drew.heap[g]? = x := h
theorem alloc_top1 (w : World) (o o' : Obj) : ((w.alloc o).alloc o').heap[w.heap.size + 1]? = some o' := by have := box_top (w.alloc o) o'; simpa using this
theorem alloc_top4 (w : World) (p q r s : Addr) (x y z u : Value) (o : Obj) : (((((w.setCell p x).setCell q y).setCell r z).setCell s u).alloc o).heap[w.heap.size]? = some o := by
  have := box_top ((((w.setCell p x).setCell q y).setCell r z).setCell s u) o
  simpa only [setCell_size] using this
theorem small_sub {f : Fun} (hs : Small f) (σ : Opd → Opd) : Small (setBlocks f (subAll σ f.blocks)) := by
  refine ⟨hs.params, by show (subAll σ f.blocks).length ≤ _; simpa [subAll] using hs.blocks, fun x hx => ?_⟩
  obtain ⟨y, hy, rfl⟩ := List.mem_map.1 (show x ∈ f.blocks.map (fun l => l.map (subIns σ)) from hx)
  obtain ⟨h1, h2⟩ := hs.code y hy
  refine ⟨by simpa using h1, fun i hi => ?_⟩
  obtain ⟨j, hj, rfl⟩ := List.mem_map.1 hi
  obtain ⟨h3, h4⟩ := h2 j hj
  exact ⟨by simpa [subIns, setArgs] using h3, by simpa [subIns, setArgs] using h4⟩
/-- two functions that calls have made, each in a box -/
def Pair (V wy : World) (f G : Fun) (np n : Nat) (s10 s11 : Value) : Prop :=
  ∃ (g h l1 m1 l2 m2 : Nat) (A : Option Addr) (C : Nat) (A' : Option Addr) (C' : Nat) (D : Option Addr) (E : Nat) (D' : Option Addr) (E' : Nat), s10 = .pointer (some ⟨g, 0, none⟩) ∧ s11 = .pointer (some ⟨h, 0, none⟩) ∧
    Tr l1 m1 wy G (.slice A np C) (.slice A' n C') ∧ Tr l2 m2 wy G (.slice D np E) (.slice D' n E') ∧
    wy.heap[g]? = some (.cells #[.string f.name, .slice A np C, .int .i64 f.ret, .slice A' n C'] 25 (0, 0)) ∧
    wy.heap[h]? = some (.cells #[.string f.name, .slice D np E, .int .i64 f.ret, .slice D' n E'] 25 (0, 0)) ∧
    Below V.heap.size V wy ∧ (V.heap.size ≤ l1 ∧ l1 ≤ m1 ∧ m1 ≤ l2 ∧ l2 ≤ m2 ∧ m2 ≤ wy.heap.size ∧ V.heap.size ≤ g ∧ V.heap.size ≤ h ∧ g ≠ h) ∧
    (g < l1 ∨ m1 ≤ g) ∧ (g < l2 ∨ m2 ≤ g) ∧ (h < l1 ∨ m1 ≤ h) ∧ (h < l2 ∨ m2 ≤ h)

set_option maxRecDepth 100000 in
set_option maxHeartbeats 12800000 in
theorem law_replaces (f : Fun) (reg : Int) (v : Opd) (other : Int) (hv64 : I64 v.kind ∧ I64 v.num) (c1 c2 : Value) (w : World) (hf : RFun.rep w w.heap.size [.string f.name, c1, .int .i64 f.ret, c2] f) (hz : funSz f ≤ 2000000) :
    Calls Try.prog 6 #[f.v c1 c2, .int .i64 reg, .agg #[.int .i64 v.kind, .int .i64 v.num, .int .u64 v.bits], .int .i64 other] w (LawPost w) := by
  have hs : Small f := small_of hz
  obtain ⟨hal, hfl⟩ := args_le hz
  have hRl : (regsL f.blocks.flatten).length ≤ 2000000 := Nat.le_trans (regsL_len _) hal
  obtain ⟨hp, hb⟩ := fun_open (RFun.later hf (Below.refl _ _) (Nat.le_refl _))
  obtain ⟨A1, k1, h1, -, -⟩ := Rp.slice1_open hp
  obtain ⟨A2, k2, h2, hm2, -⟩ := Rp.slice1_open hb
  cases h1; cases h2
  clear hp hb
  obtain ⟨n, hn⟩ : ∃ n, Hid (n = f.blocks.length) := ⟨_, hide rfl⟩
  obtain ⟨np, hnp⟩ : ∃ n, Hid (n = f.params.length) := ⟨_, hide rfl⟩
  obtain ⟨R, hR⟩ : ∃ R, Hid (R = regsL f.blocks.flatten) := ⟨_, hide rfl⟩
  rw [← hR.out] at hRl
  rw [← hn.out, ← hnp.out] at hf ⊢
  rw [← hn.out] at hm2
  obtain ⟨W, hW, hwW, hWs, hx1, hx2⟩ := boxes2 w #[.string f.name, .slice A1 np k1, .int .i64 f.ret, .slice A2 n k2] #[.int .i64 v.kind, .int .i64 v.num, .int .u64 v.bits] 25 28
  have q0 : ∀ w', Below W.heap.size W w' → w'.cell? ⟨w.heap.size, 0, none⟩ = some (.string f.name) := hx1 0 _ rfl
  have q1 : ∀ w', Below W.heap.size W w' → w'.cell? ⟨w.heap.size, 1, none⟩ = some (.slice A1 np k1) := hx1 1 _ rfl
  have q2 : ∀ w', Below W.heap.size W w' → w'.cell? ⟨w.heap.size, 2, none⟩ = some (.int .i64 f.ret) := hx1 2 _ rfl
  have q3 : ∀ w', Below W.heap.size W w' → w'.cell? ⟨w.heap.size, 3, none⟩ = some (.slice A2 n k2) := hx1 3 _ rfl
  have v0 : ∀ w', Below W.heap.size W w' → w'.cell? ⟨w.heap.size + 1, 0, none⟩ = some (.int .i64 v.kind) := hx2 0 _ rfl
  have v1 : ∀ w', Below W.heap.size W w' → w'.cell? ⟨w.heap.size + 1, 1, none⟩ = some (.int .i64 v.num) := hx2 1 _ rfl
  have v2 : ∀ w', Below W.heap.size W w' → w'.cell? ⟨w.heap.size + 1, 2, none⟩ = some (.int .u64 v.bits) := hx2 2 _ rfl
  clear hx1 hx2
  have hws : w.heap.size ≤ W.heap.size := by omega
  replace hWs := hide hWs
  have hself := Below.refl W.heap.size W
  have hF : Hid (∀ w', Below w.heap.size w w' → RFun.rep w' w'.heap.size [.string f.name, .slice A1 np k1, .int .i64 f.ret, .slice A2 n k2] f) := hide (fun w' h => RFun.later hf h h.size)
  have hsm := hide hs
  have hz2 := hide hz
  have hfh := hide hf
  have hwWh := hide hwW
  have hal2 := hide hal
  have hv64h := hide hv64
  have hWe := hide hW
  clear hs hz hf hwW hal hW hv64
  go_enter Try.func6, Try.ntmps6
  go_upto_region 1 with (fail)
  rw [hWe.out]
  clear hWe
  go_wp2_with (fail)
  refine (lives02 _).mono ?_
  rintro e w1 ⟨rfl, hb1⟩
  have c9 := hide (few_any [] [] [f] 20000 (.slice none 0 0) (.slice none 0 0) (.slice (some ⟨w1.heap.size, 0, none⟩) 1 1) _ _ (Nat.le_refl _) Rp.nil_rep Rp.nil_rep (one_fun (Nat.le_refl _) (hF.out w1 (hwWh.out.trans (hb1.mono hws)))))
  go_wp2_with (fail)
  refine c9.out.mono ?_
  rintro e w2 ⟨bl, rfl, hb2⟩
  have hbel2 := hb1.trans ((bstep hb2).mono hb1.size)
  clear hb1 hb2 c9
  cases bl with
  | false =>
    go_wp2
    go_ret
    exact ⟨rfl, hwWh.out.trans (hbel2.mono hws)⟩
  | true =>
    have hw2 := hide (hwWh.out.trans (hbel2.mono hws))
    have cC := hide (rcopytree_any f (.slice A1 np k1) (.slice A2 n k2) w2 w2.heap.size (Nat.le_refl _) (hF.out w2 hw2.out) hsm.out)
    have hs2 := hbel2.size
    go_wp2_with (fail)
    refine cC.out.mono ?_
    rintro e w3 h3
    obtain ⟨cm, dm, rfl, hTm, hb3⟩ := tree_tr h3
    obtain ⟨Am, Cm, Dm_, Em, e1, e2⟩ := hTm.form
    rw [show (setBlocks f f.blocks).params.length = np from hnp.out.symm] at e1
    rw [show (setBlocks f f.blocks).blocks.length = n from hn.out.symm] at e2
    subst e1; subst e2
    rw [show setBlocks f f.blocks = f from rfl] at hTm
    have hbel3 := hbel2.trans (hb3.mono hs2)
    have hs3 := hbel3.size
    have hs23 := hb3.size
    obtain ⟨V, hV, hwV, hVs, hvc⟩ := boxes1 w3 #[.string f.name, .slice Am np Cm, .int .i64 f.ret, .slice Dm_ n Em] 25
    have hbelV := hide (hbel3.trans (hwV.mono hs3))
    have hsWV := hbelV.out.size
    have y0 : ∀ w', Below V.heap.size V w' → w'.cell? ⟨w3.heap.size, 0, none⟩ = some (.string f.name) := hvc 0 _ rfl
    have y1 : ∀ w', Below V.heap.size V w' → w'.cell? ⟨w3.heap.size, 1, none⟩ = some (.slice Am np Cm) := hvc 1 _ rfl
    have y2 : ∀ w', Below V.heap.size V w' → w'.cell? ⟨w3.heap.size, 2, none⟩ = some (.int .i64 f.ret) := hvc 2 _ rfl
    have y3 : ∀ w', Below V.heap.size V w' → w'.cell? ⟨w3.heap.size, 3, none⟩ = some (.slice Dm_ n Em) := hvc 3 _ rfl
    have upV : ∀ w', Below V.heap.size V w' → Below W.heap.size W w' := fun w' h => hbelV.out.trans (h.mono hsWV)
    have r0 : ∀ w', Below V.heap.size V w' → w'.cell? ⟨w.heap.size + 1, 0, none⟩ = some (.int .i64 v.kind) := fun w' h => v0 w' (upV w' h)
    have r1 : ∀ w', Below V.heap.size V w' → w'.cell? ⟨w.heap.size + 1, 1, none⟩ = some (.int .i64 v.num) := fun w' h => v1 w' (upV w' h)
    have r2 : ∀ w', Below V.heap.size V w' → w'.cell? ⟨w.heap.size + 1, 2, none⟩ = some (.int .u64 v.bits) := fun w' h => v2 w' (upV w' h)
    have hTV := hide (hTm.kept (w' := V) fun k h1 h2 => hwV.block k h2)
    have hmine : Hid (∀ w', Below V.heap.size V w' → RFun.rep w' w'.heap.size [.string f.name, .slice Am np Cm, .int .i64 f.ret, .slice Dm_ n Em] f) := hide (fun w' h => (hTV.out.kept (w' := w') fun k h1 h2 => h.block k (by omega)).rep (u1 := .bool true) (u2 := .bool true) hfh.out rfl rfl)
    have cR : Hid (∀ w', Below V.heap.size V w' → Calls Try.prog 24 #[f.v (.slice Am np Cm) (.slice Dm_ n Em), .int .i64 reg, .agg #[.int .i64 v.kind, .int .i64 v.num, .int .u64 v.bits]] w' (TreePost f (subAll (rsub reg v) f.blocks) w')) := hide (fun w' h => replace_any f reg v hv64h.out _ _ w' w'.heap.size (Nat.le_refl _) (hmine.out w' h) hsm.out)
    have hselfV := Below.refl V.heap.size V
    clear cC h3 hvc hTm
    go_upto_region 6 with (fail)
    try rw [hV]
    clear hV
    obtain ⟨N9, hN9⟩ : ∃ N9, N9 = w3.heap.size := ⟨_, rfl⟩
    have hN9V : N9 < V.heap.size := by omega
    rw [← hN9] at y0 y1 y2 y3 ⊢
    replace hN9 := hide hN9
    replace upV := hide upV
    replace hVs := hide hVs
    replace hwV := hide hwV
    replace hbel3 := hide hbel3
    replace hb3 := hide hb3
    replace hbel2 := hide hbel2
    have hslen : Hid ((subAll (rsub reg v) f.blocks).length = n) := hide (by rw [hn.out]; simp [subAll])
    clear hself
    have hww := Nat.le_refl V.heap.size
    go_cut [10, 11] (fun s10 s11 wy => Pair V wy f (setBlocks f (subAll (rsub reg v) f.blocks)) np n s10 s11)
    case first =>
      go_region_held3 (fun w' => Below V.heap.size V w') (first | (with_reducible assumption) | (with_reducible exact hselfV.drew) | ((repeat' with_reducible (first | assumption | exact hselfV.drew | exact Nat.le_refl _ | refine Below.drew ?_ | refine Below.setCell ?_ ?_ _ | refine Below.alloc ?_ ?_ _)) <;> (first | (show V.heap.size ≤ _; omega) | (show V.heap.size ≤ _; simp <;> omega))))
        (first
          | (go_at_call 24
             have hkk := hkY1
             refine (cR.out _ (by assumption)).mono ?_
             rintro e Y2 h3
             obtain ⟨ch, dh, rfl, hTh, hbY2⟩ := tree_tr h3
             obtain ⟨Ah, Ch, Dh, Eh, e1, e2⟩ := hTh.form
             rw [show (setBlocks f (subAll (rsub reg v) f.blocks)).params.length = np from hnp.out.symm] at e1
             rw [show (setBlocks f (subAll (rsub reg v) f.blocks)).blocks.length = n from hslen.out] at e2
             subst e1
             subst e2
             have hkY2 : Below V.heap.size V Y2 := below_next (by assumption) hww hbY2
             have hlY2 := hkY2.size
             obtain ⟨hc2, hf2⟩ := bcell hbY2
             (try have hs4 : Y1.heap.size < Y2.heap.size := by have := hbY2.size; (try simp at this); omega)
             (try have hs4' : Y1.heap.size + 1 < Y2.heap.size := by have := hbY2.size; (try simp at this); omega)
             (try have hs5 : V.heap.size < Y2.heap.size := by have := hbY2.size; (try simp at this); omega)
             (try have hs5' : V.heap.size + 1 < Y2.heap.size := by have := hbY2.size; (try simp at this); omega)
             have hsY2 := hbY2.size
             (try simp at hsY2)
             have hThh := hide hTh
             have hbY2h := hide hbY2
             clear hTh h3 hbY2)
          | (go_at_call 24
             refine (cR.out _ (by assumption)).mono ?_
             rintro e Y1 h3
             obtain ⟨cg, dg, rfl, hTg, hbY1⟩ := tree_tr h3
             obtain ⟨Ag, Cg, Dg, Eg, e1, e2⟩ := hTg.form
             rw [show (setBlocks f (subAll (rsub reg v) f.blocks)).params.length = np from hnp.out.symm] at e1
             rw [show (setBlocks f (subAll (rsub reg v) f.blocks)).blocks.length = n from hslen.out] at e2
             subst e1
             subst e2
             have hkY1 : Below V.heap.size V Y1 := below_next (by assumption) hww hbY1
             have hlY1 := hkY1.size
             obtain ⟨hc1, hf1⟩ := bcell hbY1
             (try have hs3 : V.heap.size < Y1.heap.size := by have := hbY1.size; (try simp at this); omega)
             (try have hs3' : V.heap.size + 1 < Y1.heap.size := by have := hbY1.size; (try simp at this); omega)
             have hsY1 := hbY1.size
             (try simp at hsY1)
             have hTgh := hide hTg
             have hbY1h := hide hbY1
             clear hTg h3 hbY1))
      all_goals go_wp2_with (fail)
      all_goals go_meet
      all_goals clear cR hsm hz2 hfh hal2 hv64h hF hmine upV hslen hN9 hVs hwV hbel3 hb3 hbel2 q0 q1 q2 q3 v0 v1 v2 r0 r1 r2 y0 y1 y2 y3 hselfV hm2 hws hWs hfl hRl hs3 hs23 hsWV hN9V hs2 hw2 hbelV hwWh hR hn hnp
      all_goals refine ⟨_, _, _, _, _, _, _, _, _, _, _, _, _, _, rfl, rfl, hTgh.out.kept (fun k a b => by
        (try simp only [alloc_sz, setCell_size, drew_sz] at a b)
        repeat' with_reducible (first | exact rfl | exact box_top _ _ | refine of_drew ?_ | exact box_under _ _ _ | exact alloc_top1 _ _ _ | exact alloc_top4 _ _ _ _ _ _ _ _ _ _ | refine set4z ?_ | refine set_far ?_ ?_ | refine one_alloc ?_ _ | refine (Below.heap_setCell _ _ _ _ ?_).trans ?_ | refine (Below.heap_alloc _ _ _ ?_).trans ?_ | refine (hbY2h.out.block _ ?_).trans ?_ | refine (hbY1h.out.block _ ?_).trans ?_)
        all_goals (first | (simp only [alloc_sz, setCell_size, drew_sz]; omega) | omega)), hThh.out.kept (fun k a b => by
        (try simp only [alloc_sz, setCell_size, drew_sz] at a b)
        repeat' with_reducible (first | exact rfl | exact box_top _ _ | refine of_drew ?_ | exact box_under _ _ _ | exact alloc_top1 _ _ _ | exact alloc_top4 _ _ _ _ _ _ _ _ _ _ | refine set4z ?_ | refine set_far ?_ ?_ | refine one_alloc ?_ _ | refine (Below.heap_setCell _ _ _ _ ?_).trans ?_ | refine (Below.heap_alloc _ _ _ ?_).trans ?_ | refine (hbY2h.out.block _ ?_).trans ?_ | refine (hbY1h.out.block _ ?_).trans ?_)
        all_goals (first | (simp only [alloc_sz, setCell_size, drew_sz]; omega) | omega)), (by
        repeat' with_reducible (first | exact rfl | exact box_top _ _ | refine of_drew ?_ | exact box_under _ _ _ | exact alloc_top1 _ _ _ | exact alloc_top4 _ _ _ _ _ _ _ _ _ _ | refine set4z ?_ | refine set_far ?_ ?_ | refine one_alloc ?_ _ | refine (Below.heap_setCell _ _ _ _ ?_).trans ?_ | refine (Below.heap_alloc _ _ _ ?_).trans ?_ | refine (hbY2h.out.block _ ?_).trans ?_ | refine (hbY1h.out.block _ ?_).trans ?_)
        all_goals (first | (simp only [alloc_sz, setCell_size, drew_sz]; omega) | omega)), (by
        repeat' with_reducible (first | exact rfl | exact box_top _ _ | refine of_drew ?_ | exact box_under _ _ _ | exact alloc_top1 _ _ _ | exact alloc_top4 _ _ _ _ _ _ _ _ _ _ | refine set4z ?_ | refine set_far ?_ ?_ | refine one_alloc ?_ _ | refine (Below.heap_setCell _ _ _ _ ?_).trans ?_ | refine (Below.heap_alloc _ _ _ ?_).trans ?_ | refine (hbY2h.out.block _ ?_).trans ?_ | refine (hbY1h.out.block _ ?_).trans ?_)
        all_goals (first | (simp only [alloc_sz, setCell_size, drew_sz]; omega) | omega)), (by with_reducible assumption), ⟨(by (first | (simp only [alloc_sz, setCell_size, drew_sz]; omega) | omega)), (by (first | (simp only [alloc_sz, setCell_size, drew_sz]; omega) | omega)), (by (first | (simp only [alloc_sz, setCell_size, drew_sz]; omega) | omega)), (by (first | (simp only [alloc_sz, setCell_size, drew_sz]; omega) | omega)), (by (first | (simp only [alloc_sz, setCell_size, drew_sz]; omega) | omega)), (by (first | (simp only [alloc_sz, setCell_size, drew_sz]; omega) | omega)), (by (first | (simp only [alloc_sz, setCell_size, drew_sz]; omega) | omega)), (by (first | (simp only [alloc_sz, setCell_size, drew_sz]; omega) | omega))⟩, (by (first | (simp only [alloc_sz, setCell_size, drew_sz]; omega) | omega)), (by (first | (simp only [alloc_sz, setCell_size, drew_sz]; omega) | omega)), (by (first | (simp only [alloc_sz, setCell_size, drew_sz]; omega) | omega)), (by (first | (simp only [alloc_sz, setCell_size, drew_sz]; omega) | omega))⟩
    case rest =>
      obtain ⟨g, h, l1, m1, l2, m2, Ag, Cg, Dg, Eg, Ah, Ch, Dh, Eh, rfl, rfl, hTg, hTh, hbg, hbh, hbY, ⟨p1, p2, p3, p4, p5, p6, p7, p8⟩, o1, o2, o3, o4⟩ := hcut
      obtain ⟨Y, rfl⟩ : ∃ w : World, w = wc := ⟨_, rfl⟩
      have gl : g < Y.heap.size := (Array.getElem?_eq_some_iff.1 hbg).1
      have hl : h < Y.heap.size := (Array.getElem?_eq_some_iff.1 hbh).1
      have hVY := hbY.size
      have h3V := hwV.out.size
      have hWV9 := hbelV.out.size
      have hbWY : Below W.heap.size W Y := hbelV.out.trans (hbY.mono hWV9)
      have z0 : ∀ w', Below Y.heap.size Y w' → w'.cell? ⟨w.heap.size, 0, none⟩ = some (.string f.name) := fun w' h => q0 w' (hbWY.trans (h.mono hbWY.size))
      have z1 : ∀ w', Below Y.heap.size Y w' → w'.cell? ⟨w.heap.size, 1, none⟩ = some (.slice A1 np k1) := fun w' h => q1 w' (hbWY.trans (h.mono hbWY.size))
      have z2 : ∀ w', Below Y.heap.size Y w' → w'.cell? ⟨w.heap.size, 2, none⟩ = some (.int .i64 f.ret) := fun w' h => q2 w' (hbWY.trans (h.mono hbWY.size))
      have z3 : ∀ w', Below Y.heap.size Y w' → w'.cell? ⟨w.heap.size, 3, none⟩ = some (.slice A2 n k2) := fun w' h => q3 w' (hbWY.trans (h.mono hbWY.size))
      have s0 : ∀ w', Below Y.heap.size Y w' → w'.cell? ⟨w.heap.size + 1, 0, none⟩ = some (.int .i64 v.kind) := fun w' h => v0 w' (hbWY.trans (h.mono hbWY.size))
      have s1 : ∀ w', Below Y.heap.size Y w' → w'.cell? ⟨w.heap.size + 1, 1, none⟩ = some (.int .i64 v.num) := fun w' h => v1 w' (hbWY.trans (h.mono hbWY.size))
      have s2 : ∀ w', Below Y.heap.size Y w' → w'.cell? ⟨w.heap.size + 1, 2, none⟩ = some (.int .u64 v.bits) := fun w' h => v2 w' (hbWY.trans (h.mono hbWY.size))
      have cW : Hid (∀ w', Below Y.heap.size Y w' → Calls Try.prog 25 #[f.v (.slice A1 np k1) (.slice A2 n k2), .int .i64 reg, .agg #[.int .i64 v.kind, .int .i64 v.num, .int .u64 v.bits]] w' (TreePost f (subAll (rsub reg v) f.blocks) w')) :=
        hide (fun w' h => rreplace_any f reg v hv64h.out _ _ w' w'.heap.size (Nat.le_refl _) (hF.out w' (hwWh.out.trans ((hbWY.trans (h.mono hbWY.size)).mono hws))) hsm.out)
      have hselfY := Below.refl Y.heap.size Y
      clear q0 q1 q2 q3 v0 v1 v2 r0 r1 r2 cR hselfV hww
      replace hTg := hide hTg
      replace hTh := hide hTh
      replace hbg := hide hbg
      replace hbh := hide hbh
      replace hbY := hide hbY
      replace hbWY := hide hbWY
      go_wp2_with (fail)
      refine (cW.out _ (by first | (with_reducible assumption) | exact hselfY.drew)).mono ?_
      rintro e w6 h3
      obtain ⟨cw, dw, rfl, hTw, hb6⟩ := tree_tr h3
      obtain ⟨Aw, Cw, Dw, Ew, e1, e2⟩ := hTw.form
      rw [show (setBlocks f (subAll (rsub reg v) f.blocks)).params.length = np from hnp.out.symm] at e1
      rw [show (setBlocks f (subAll (rsub reg v) f.blocks)).blocks.length = n from hslen.out] at e2
      subst e1
      subst e2
      have hs6 := hb6.size
      obtain ⟨X, hX, hwX, hXs, hxc⟩ := boxes1 w6 #[.string f.name, .slice Aw np Cw, .int .i64 f.ret, .slice Dw n Ew] 25
      have hbYX : Below Y.heap.size Y X := (by first | exact (hselfY.drew.trans (hb6.mono (Nat.le_refl _))).trans (hwX.mono hs6) | exact hb6.trans (hwX.mono hs6))
      have hYX := hbYX.size
      have hselfX := Below.refl X.heap.size X
      have gX : ∀ w', Below X.heap.size X w' → Below Y.heap.size Y w' := fun w' h => hbYX.trans (h.mono hYX)
      have g0 : ∀ w', Below X.heap.size X w' → w'.cell? ⟨g, 0, none⟩ = some (.string f.name) := fun w' h => box_cell hbg.out rfl gl (gX w' h)
      have g1 : ∀ w', Below X.heap.size X w' → w'.cell? ⟨g, 1, none⟩ = some (.slice Ag np Cg) := fun w' h => box_cell hbg.out rfl gl (gX w' h)
      have g2 : ∀ w', Below X.heap.size X w' → w'.cell? ⟨g, 2, none⟩ = some (.int .i64 f.ret) := fun w' h => box_cell hbg.out rfl gl (gX w' h)
      have g3 : ∀ w', Below X.heap.size X w' → w'.cell? ⟨g, 3, none⟩ = some (.slice Dg n Eg) := fun w' h => box_cell hbg.out rfl gl (gX w' h)
      have a0 : ∀ w', Below X.heap.size X w' → w'.cell? ⟨w.heap.size, 0, none⟩ = some (.string f.name) := fun w' h => z0 w' (gX w' h)
      have a1 : ∀ w', Below X.heap.size X w' → w'.cell? ⟨w.heap.size, 1, none⟩ = some (.slice A1 np k1) := fun w' h => z1 w' (gX w' h)
      have a2 : ∀ w', Below X.heap.size X w' → w'.cell? ⟨w.heap.size, 2, none⟩ = some (.int .i64 f.ret) := fun w' h => z2 w' (gX w' h)
      have a3 : ∀ w', Below X.heap.size X w' → w'.cell? ⟨w.heap.size, 3, none⟩ = some (.slice A2 n k2) := fun w' h => z3 w' (gX w' h)
      have i0 : ∀ w', Below X.heap.size X w' → w'.cell? ⟨N9, 0, none⟩ = some (.string f.name) := fun w' h => y0 w' (hbY.out.trans ((gX w' h).mono hVY))
      have i1 : ∀ w', Below X.heap.size X w' → w'.cell? ⟨N9, 1, none⟩ = some (.slice Am np Cm) := fun w' h => y1 w' (hbY.out.trans ((gX w' h).mono hVY))
      have i2 : ∀ w', Below X.heap.size X w' → w'.cell? ⟨N9, 2, none⟩ = some (.int .i64 f.ret) := fun w' h => y2 w' (hbY.out.trans ((gX w' h).mono hVY))
      have i3 : ∀ w', Below X.heap.size X w' → w'.cell? ⟨N9, 3, none⟩ = some (.slice Dm_ n Em) := fun w' h => y3 w' (hbY.out.trans ((gX w' h).mono hVY))
      have j0 : ∀ w', Below X.heap.size X w' → w'.cell? ⟨w.heap.size + 1, 0, none⟩ = some (.int .i64 v.kind) := fun w' h => s0 w' (gX w' h)
      have j1 : ∀ w', Below X.heap.size X w' → w'.cell? ⟨w.heap.size + 1, 1, none⟩ = some (.int .i64 v.num) := fun w' h => s1 w' (gX w' h)
      have hTgX : Hid (∀ w', Below X.heap.size X w' → Tr l1 m1 w' (setBlocks f (subAll (rsub reg v) f.blocks)) (.slice Ag np Cg) (.slice Dg n Eg)) := hide (fun w' h => hTg.out.kept fun k q1 q2 => (gX w' h).block k (by omega))
      have hThX : Hid (∀ w', Below X.heap.size X w' → Tr l2 m2 w' (setBlocks f (subAll (rsub reg v) f.blocks)) (.slice Ah np Ch) (.slice Dh n Eh)) := hide (fun w' h => hTh.out.kept fun k q1 q2 => (gX w' h).block k (by omega))
      have hTwX : Hid (∀ w', Below X.heap.size X w' → Tr Y.heap.size w6.heap.size w' (setBlocks f (subAll (rsub reg v) f.blocks)) (.slice Aw np Cw) (.slice Dw n Ew)) := hide (fun w' h => (show Tr Y.heap.size w6.heap.size w6 _ _ _ from hTw).kept fun k q1 q2 => (h.block k (by omega)).trans (hwX.block k q2))
      have hTmX : Hid (∀ w', Below X.heap.size X w' → Tr w2.heap.size w3.heap.size w' f (.slice Am np Cm) (.slice Dm_ n Em)) := hide (fun w' h => hTV.out.kept fun k q1 q2 => (hbY.out.trans ((gX w' h).mono hVY)).block k (by omega))
      have w63 : w6.heap.size < X.heap.size := by omega
      have hbX : Hid (Below w.heap.size w X) := hide (hwWh.out.trans ((hbWY.out.trans (hbYX.mono hbWY.out.size)).mono hws))
      have hwXb : ∀ w', Below X.heap.size X w' → Below w.heap.size w w' := fun w' h => hbX.out.trans (h.mono hbX.out.size)
      have ff : ∀ w', Below X.heap.size X w' → RFun.rep w' w'.heap.size [.string f.name, .slice A1 np k1, .int .i64 f.ret, .slice A2 n k2] f := fun w' h => hF.out w' (hwXb w' h)
      have fg : ∀ w', Below X.heap.size X w' → RFun.rep w' w'.heap.size [.string f.name, .slice Ag np Cg, .int .i64 f.ret, .slice Dg n Eg] (setBlocks f (subAll (rsub reg v) f.blocks)) := fun w' h => (hTgX.out w' h).rep (u1 := .bool true) (u2 := .bool true) hfh.out rfl rfl
      have fw : ∀ w', Below X.heap.size X w' → RFun.rep w' w'.heap.size [.string f.name, .slice Aw np Cw, .int .i64 f.ret, .slice Dw n Ew] (setBlocks f (subAll (rsub reg v) f.blocks)) := fun w' h => (hTwX.out w' h).rep (u1 := .bool true) (u2 := .bool true) hfh.out rfl rfl
      have fm : ∀ w', Below X.heap.size X w' → RFun.rep w' w'.heap.size [.string f.name, .slice Am np Cm, .int .i64 f.ret, .slice Dm_ n Em] f := fun w' h => (hTmX.out w' h).rep (u1 := .bool true) (u2 := .bool true) hfh.out rfl rfl
      have cF1 : Hid (∀ w', Below X.heap.size X w' → Calls Try.prog 26 #[f.v (.slice Ag np Cg) (.slice Dg n Eg), f.v (.slice Aw np Cw) (.slice Dw n Ew)] w' fun e w'' => e = .returned (.bool true) ∧ Below w'.heap.size w' w'') := hide (fun w' h => by
        have := funcs_any (setBlocks f (subAll (rsub reg v) f.blocks)) (setBlocks f (subAll (rsub reg v) f.blocks)) _ _ _ _ w' w'.heap.size (Nat.le_refl _) (fg w' h) (fw w' h)
        rwa [decide_eq_true rfl] at this)
      have cF2 : Hid (∀ w', Below X.heap.size X w' → Calls Try.prog 26 #[f.v (.slice Am np Cm) (.slice Dm_ n Em), f.v (.slice A1 np k1) (.slice A2 n k2)] w' fun e w'' => e = .returned (.bool true) ∧ Below w'.heap.size w' w'') := hide (fun w' h => by
        have := funcs_any f f _ _ _ _ w' w'.heap.size (Nat.le_refl _) (fm w' h) (ff w' h)
        rwa [decide_eq_true rfl] at this)
      have cS : Hid (∀ w', Below X.heap.size X w' → Calls Try.prog 27 #[f.v (.slice Ag np Cg) (.slice Dg n Eg), f.v (.slice Aw np Cw) (.slice Dw n Ew)] w' fun e w'' => e = .returned (.bool true) ∧ Below w'.heap.size w' w'') := hide (fun w' h => by
        have := same_func (setBlocks f (subAll (rsub reg v) f.blocks)) (setBlocks f (subAll (rsub reg v) f.blocks)) _ _ _ _ w' w'.heap.size (Nat.le_refl _) (fg w' h) (fw w' h)
        rwa [decide_eq_true rfl] at this)
      have cK : Hid (∀ w', Below X.heap.size X w' → Calls Try.prog 28 #[f.v (.slice Am np Cm) (.slice Dm_ n Em)] w' (TreePost f f.blocks w')) := hide (fun w' h => icopytree_any f _ _ w' w'.heap.size (Nat.le_refl _) (fm w' h) hsm.out)
      have hus := usesL_any (reg := reg) (other := other) v f.blocks
      rw [← hR.out] at hus
      obtain ⟨hus1, hus2⟩ := hus
      replace hus1 := hide hus1
      replace hus2 := hide hus2
      have hag : argsL (subAll (rsub reg v) f.blocks).flatten ≤ 2000000 := by rw [sub_flat, argsL_sub]; exact hal2.out
      have cU : Hid (∀ (r : Int) w', Below X.heap.size X w' → Calls Try.prog 29 #[f.v (.slice A1 np k1) (.slice A2 n k2), .int .i64 r] w' fun e w'' => e = .returned (.int .i64 ((R.count r : Nat) : Int)) ∧ Below w'.heap.size w' w'') := hide (fun r w' h => by
        obtain ⟨hp, hb⟩ := fun_open (ff w' h)
        have := uses_any f r (.slice A1 np k1) (.slice A2 n k2) w' w'.heap.size (Nat.le_refl _) hp hb (by have := hal2.out; omega)
        rw [show iuses f r = ((R.count r : Nat) : Int) from by unfold iuses; rw [hR.out, usesL_count]] at this
        exact this)
      have cV : Hid (∀ (r : Int) (c : Nat), usesL (subAll (rsub reg v) f.blocks).flatten r = c → ∀ w', Below X.heap.size X w' → Calls Try.prog 29 #[f.v (.slice Ag np Cg) (.slice Dg n Eg), .int .i64 r] w' fun e w'' => e = .returned (.int .i64 ((c : Nat) : Int)) ∧ Below w'.heap.size w' w'') := hide (fun r c hc w' h => by
        obtain ⟨hp, hb⟩ := fun_open (x := setBlocks f (subAll (rsub reg v) f.blocks)) (fg w' h)
        have := uses_any (setBlocks f (subAll (rsub reg v) f.blocks)) r (.slice Ag np Cg) (.slice Dg n Eg) w' w'.heap.size (Nat.le_refl _) hp hb (Nat.le_trans hag (by omega))
        rw [show iuses (setBlocks f (subAll (rsub reg v) f.blocks)) r = (c : Int) from by rw [← hc]; rfl] at this
        exact this)
      replace hTgX := hide hTgX
      replace gX := hide gX
      replace hwXb := hide hwXb
      replace ff := hide ff
      replace fg := hide fg
      replace fw := hide fw
      replace fm := hide fm
      replace hbYX := hide hbYX
      replace hXs := hide hXs
      replace hwX := hide hwX
      replace hb6 := hide hb6
      replace hTw := hide hTw
      have hxc' := hxc
      have e0 : ∀ w', Below X.heap.size X w' → w'.cell? ⟨w6.heap.size, 0, none⟩ = some (.string f.name) := hxc 0 _ rfl
      have e1 : ∀ w', Below X.heap.size X w' → w'.cell? ⟨w6.heap.size, 1, none⟩ = some (.slice Aw np Cw) := hxc 1 _ rfl
      have e2 : ∀ w', Below X.heap.size X w' → w'.cell? ⟨w6.heap.size, 2, none⟩ = some (.int .i64 f.ret) := hxc 2 _ rfl
      have e3 : ∀ w', Below X.heap.size X w' → w'.cell? ⟨w6.heap.size, 3, none⟩ = some (.slice Dw n Ew) := hxc 3 _ rfl
      obtain ⟨N6, hN6⟩ : ∃ N6, N6 = w6.heap.size := ⟨_, rfl⟩
      clear h3 hxc hxc' z0 z1 z2 z3 s0 s1 s2 y0 y1 y2 y3 cW hselfY
      go_upto_region 8 with (fail)
      try rw [hX]
      clear hX
      rw [← hN6] at e0 e1 e2 e3 ⊢
      have hN6X : N6 < X.heap.size := by omega
      have hN6Y : Y.heap.size ≤ N6 := by omega
      replace hN6 := hide hN6
      go_region_held3 (fun w' => Below X.heap.size X w') (first | (with_reducible assumption) | exact hselfX.drew)
        (first
          | (go_at_call 26
             have hkk := hk4
             refine (cF3.out).mono ?_
             rintro e u5 ⟨rfl, hb5⟩
             have hk5 : Below X.heap.size X u5 := hk4.trans (hb5.mono hk4.size)
             clear hb5)
          | (go_at_call 28
             refine (cK.out _ hk3).mono ?_
             rintro e u4 h3
             obtain ⟨cc, dc, rfl, hTc, hb4⟩ := tree_tr h3
             have hk4 : Below X.heap.size X u4 := hk3.trans (hb4.mono hk3.size)
             have cF3 : Hid (Calls Try.prog 26 #[f.v cc dc, f.v (.slice A1 np k1) (.slice A2 n k2)] u4 fun e w'' => e = .returned (.bool true) ∧ Below u4.heap.size u4 w'') := hide (by
               have := funcs_any f f cc dc _ _ u4 u4.heap.size (Nat.le_refl _) (hTc.rep (u1 := .bool true) (u2 := .bool true) hfh.out rfl rfl) (ff.out u4 hk4)
               rwa [decide_eq_true rfl] at this)
             clear hTc h3 hb4)
          | (go_at_call 27; refine (cS.out _ hk2).mono ?_; rintro e u3 ⟨rfl, hb3⟩; have hk3 : Below X.heap.size X u3 := hk2.trans (hb3.mono hk2.size); clear hb3)
          | (go_at_call 26; refine (cF2.out _ hk1).mono ?_; rintro e u2 ⟨rfl, hb2⟩; have hk2 : Below X.heap.size X u2 := hk1.trans (hb2.mono hk1.size); clear hb2)
          | (go_at_call 26; refine (cF1.out _ (hselfX.drew)).mono ?_; rintro e u1 ⟨rfl, hb1⟩; have hk1 : Below X.heap.size X u1 := (hselfX.drew).trans hb1; clear hb1))
      rename World => u5
      clear cF3 cF1 cF2 cS cK hk1 hk2 hk3 hk4
      obtain ⟨sf, hsf⟩ : ∃ sf : Bool, Hid (sf = (decide (v.kind = 1) && decide (v.num = reg))) := ⟨_, hide rfl⟩
      have hself5 := hk5
      go_upto_region 10 with (fail)
      go_cut [13] (fun s wx => s = .bool sf ∧ wx = u5)
      case first =>
        by_cases b1 : v.kind = 1
        · by_cases b2 : v.num = reg
          · go_wp2_with (fail)
            go_meet
            exact ⟨by rw [hsf.out]; simp [b1, b2], rfl⟩
          · go_wp2_with (fail)
            go_meet
            exact ⟨by rw [hsf.out]; simp [b1, b2], rfl⟩
        · go_wp2_with (fail)
          go_meet
          exact ⟨by rw [hsf.out]; simp [b1], rfl⟩
      case rest =>
        obtain ⟨rfl, rfl⟩ := hcut
        rename World => u5
        clear hself5
        go_upto_region 11 with (fail)
        go_cut [75] (fun s wx => s = .bool false ∧ Below X.heap.size X wx)
        case first =>
          cases sf with
          | true =>
            go_wp2_with (fail)
            go_meet
            exact ⟨rfl, hk5⟩
          | false =>
            have b3 : ¬ (v.kind = 1 ∧ v.num = reg) := fun hb => by have := hsf.out; simp [hb.1, hb.2] at this
            have cg := hide (cV.out reg 0 (hus2.out b3) u5 hk5)
            go_wp2_with (fail)
            refine cg.out.mono ?_
            rintro e u6 ⟨rfl, hb6⟩
            have hk6 : Below X.heap.size X u6 := hk5.trans (hb6.mono hk5.size)
            go_wp2_with (fail)
            go_meet
            exact ⟨rfl, hk6⟩
        case rest =>
          obtain ⟨rfl, hk6⟩ := hcut
          rename World => u6
          clear hk5
          obtain ⟨mo, hmo⟩ : ∃ mo : Nat, Hid (mo = if v.kind = 1 ∧ v.num = other then R.count reg else 0) := ⟨_, hide rfl⟩
          obtain ⟨mf, hmf⟩ : ∃ mf : Bool, Hid (mf = (decide (v.kind = 1) && decide (v.num = other))) := ⟨_, hide rfl⟩
          go_upto_region 14 with (fail)
          go_cut [84] (fun s wx => s = .bool mf ∧ wx = u6)
          case first =>
            by_cases b1 : v.kind = 1
            · by_cases b2 : v.num = other
              · go_wp2_with (fail)
                go_meet
                exact ⟨by rw [hmf.out]; simp [b1, b2], rfl⟩
              · go_wp2_with (fail)
                go_meet
                exact ⟨by rw [hmf.out]; simp [b1, b2], rfl⟩
            · go_wp2_with (fail)
              go_meet
              exact ⟨by rw [hmf.out]; simp [b1], rfl⟩
          case rest =>
            obtain ⟨rfl, rfl⟩ := hcut
            rename World => u6
            go_upto_if 84 with (fail)
            go_cut [14] (fun s wx => s = .int .i64 (mo : Int) ∧ Below X.heap.size X wx)
            case first =>
              cases mf with
              | false =>
                go_wp2_with (fail)
                go_meet
                refine ⟨?_, hk6⟩
                have e9 := hmf.out
                rw [hmo.out, if_neg (fun hb => by simp [hb.1, hb.2] at e9)]
                rfl
              | true =>
                have cg := hide (cU.out reg u6 hk6)
                go_wp2_with (fail)
                refine cg.out.mono ?_
                rintro e u7 ⟨rfl, hb7⟩
                have hk7 : Below X.heap.size X u7 := hk6.trans (hb7.mono hk6.size)
                go_wp2_with (fail)
                go_meet
                refine ⟨?_, hk7⟩
                have e9 := hmf.out
                rw [hmo.out, if_pos (by simpa using e9)]
            case rest =>
              obtain ⟨rfl, hk7⟩ := hcut
              rename World => u7
              clear hk6
              have hc1 : R.count other ≤ R.length := List.count_le_length
              have hc2 : mo ≤ R.length := by
                rw [hmo.out]
                split
                · exact List.count_le_length
                · omega
              obtain ⟨n1, hn1⟩ : ∃ n1, Hid (n1 = R.count other) := ⟨_, hide rfl⟩
              rw [← hn1.out] at hc1
              obtain ⟨ns, hns⟩ : ∃ ns, Hid (ns = n1 + mo) := ⟨_, hide rfl⟩
              have hs9 : (n1 : Int) + (mo : Int) = (ns : Int) := by rw [hns.out]; omega
              have hs8 : ns ≤ 4000000 := by rw [hns.out]; omega
              have hw9 : IntKind.i64.wrap (ns : Int) = (ns : Int) := by simp [IntKind.wrap, IntKind.bits, IntKind.signed]; omega
              go_upto_region 16 with (fail)
              go_cut [101] (fun s wx => s = .bool false ∧ Below X.heap.size X wx)
              case first =>
                by_cases b4 : other = reg
                · have b5 : (other != reg) = false := by simp [b4]
                  go_quiet (fail)
                  go_wp2_with (fail)
                  go_meet
                  exact ⟨rfl, ⟨hk7.os, hk7.tape, hk7.output, hk7.size, hk7.block⟩⟩
                · have b5 : (other != reg) = true := by simp [b4]
                  have cg := hide (cV.out other ns (by rw [hus1.out b4, hns.out, hn1.out, hmo.out]))
                  have cu := hide (cU.out other)
                  rw [← hn1.out] at cu
                  have hk7d : Below X.heap.size X u7.drew := hk7.drew
                  clear cU cV
                  go_region_held3 (fun w' => Below X.heap.size X w') (first | (with_reducible assumption) | exact hk7.drew)
                    (first
                      | (go_at_call 29; refine (cu.out _ hk8).mono ?_; rintro e u9 ⟨rfl, hb9⟩; have hk9 : Below X.heap.size X u9 := hk8.trans (hb9.mono hk8.size); clear hb9)
                      | (go_at_call 29; refine (cg.out _ hk7d).mono ?_; rintro e u8 ⟨rfl, hb8⟩; have hk8 : Below X.heap.size X u8 := hk7d.trans (hb8.mono hk7d.size); clear hb8))
                  all_goals go_wp2_with (fail)
                  all_goals go_meet
                  all_goals exact ⟨rfl, hk9⟩
              case rest =>
                obtain ⟨rfl, hk8⟩ := hcut
                rename World => u8
                clear hk7 hs9 hw9
                have hXU := hk8.size
                have T1 := hide (hTgX.out u8 hk8)
                have T2 := hide (hTmX.out u8 hk8)
                have T3 := hide (hThX.out u8 hk8)
                have T4 := hide (hTwX.out u8 hk8)
                have b0 := box_cell (j := 0) hbh.out rfl hl (gX.out u8 hk8)
                have b1 := box_cell (j := 1) hbh.out rfl hl (gX.out u8 hk8)
                have b2 := box_cell (j := 2) hbh.out rfl hl (gX.out u8 hk8)
                have b3 := box_cell (j := 3) hbh.out rfl hl (gX.out u8 hk8)
                have hsG : Small (setBlocks f (subAll (rsub reg v) f.blocks)) := small_sub hsm.out (rsub reg v)
                have cSg := hide (spoil_tree T1.out hsG)
                go_wp2_with (fail)
                refine cSg.out.mono ?_
                rintro e v1 ⟨rfl, hO1⟩
                have hO1s := hO1.size
                have f0 : v1.cell? ⟨N9, 0, none⟩ = some (.string f.name) := (hO1.cell (p := ⟨N9, 0, none⟩) (by show N9 < _; omega) (by show ¬ (l1 ≤ N9 ∧ N9 < m1); omega)).trans (i0 u8 hk8)
                have f1 : v1.cell? ⟨N9, 1, none⟩ = some (.slice Am np Cm) := (hO1.cell (p := ⟨N9, 1, none⟩) (by show N9 < _; omega) (by show ¬ (l1 ≤ N9 ∧ N9 < m1); omega)).trans (i1 u8 hk8)
                have f2 : v1.cell? ⟨N9, 2, none⟩ = some (.int .i64 f.ret) := (hO1.cell (p := ⟨N9, 2, none⟩) (by show N9 < _; omega) (by show ¬ (l1 ≤ N9 ∧ N9 < m1); omega)).trans (i2 u8 hk8)
                have f3 : v1.cell? ⟨N9, 3, none⟩ = some (.slice Dm_ n Em) := (hO1.cell (p := ⟨N9, 3, none⟩) (by show N9 < _; omega) (by show ¬ (l1 ≤ N9 ∧ N9 < m1); omega)).trans (i3 u8 hk8)
                have hTm1 := hide (T2.out.kept (w' := v1) fun k q1 q2 => hO1.block k (by omega) (by omega))
                have cSm := hide (spoil_tree hTm1.out hsm.out)
                go_wp2_with (fail)
                refine cSm.out.mono ?_
                rintro e v2 ⟨rfl, hO2⟩
                have hO2s := hO2.size
                have both : ∀ k, k < u8.heap.size → ¬ (l1 ≤ k ∧ k < m1) → ¬ (w2.heap.size ≤ k ∧ k < w3.heap.size) → v2.heap[k]? = u8.heap[k]? := fun k h1 h2 h3 => (hO2.block k (by omega) h3).trans (hO1.block k h1 h2)
                have d0 : v2.cell? ⟨h, 0, none⟩ = some (.string f.name) := (World.cell?_of_block (a := ⟨h, 0, none⟩) (both h (by omega) (by omega) (by omega))).trans b0
                have d1 : v2.cell? ⟨h, 1, none⟩ = some (.slice Ah np Ch) := (World.cell?_of_block (a := ⟨h, 1, none⟩) (both h (by omega) (by omega) (by omega))).trans b1
                have d2 : v2.cell? ⟨h, 2, none⟩ = some (.int .i64 f.ret) := (World.cell?_of_block (a := ⟨h, 2, none⟩) (both h (by omega) (by omega) (by omega))).trans b2
                have d3 : v2.cell? ⟨h, 3, none⟩ = some (.slice Dh n Eh) := (World.cell?_of_block (a := ⟨h, 3, none⟩) (both h (by omega) (by omega) (by omega))).trans b3
                have c0 : v2.cell? ⟨N6, 0, none⟩ = some (.string f.name) := (World.cell?_of_block (a := ⟨N6, 0, none⟩) (both N6 (by omega) (by omega) (by omega))).trans (e0 u8 hk8)
                have c1 : v2.cell? ⟨N6, 1, none⟩ = some (.slice Aw np Cw) := (World.cell?_of_block (a := ⟨N6, 1, none⟩) (both N6 (by omega) (by omega) (by omega))).trans (e1 u8 hk8)
                have c2 : v2.cell? ⟨N6, 2, none⟩ = some (.int .i64 f.ret) := (World.cell?_of_block (a := ⟨N6, 2, none⟩) (both N6 (by omega) (by omega) (by omega))).trans (e2 u8 hk8)
                have c3 : v2.cell? ⟨N6, 3, none⟩ = some (.slice Dw n Ew) := (World.cell?_of_block (a := ⟨N6, 3, none⟩) (both N6 (by omega) (by omega) (by omega))).trans (e3 u8 hk8)
                have T5 := hide (T3.out.kept (w' := v2) fun k q1 q2 => both k (by omega) (by omega) (by omega))
                have T6 := hide (T4.out.kept (w' := v2) fun k q1 q2 => both k (by omega) (by omega) (by omega))
                have cE : Hid (Calls Try.prog 26 #[f.v (.slice Ah np Ch) (.slice Dh n Eh), f.v (.slice Aw np Cw) (.slice Dw n Ew)] v2 fun e w'' => e = .returned (.bool true) ∧ Below v2.heap.size v2 w'') := hide (by
                  have := funcs_any (setBlocks f (subAll (rsub reg v) f.blocks)) (setBlocks f (subAll (rsub reg v) f.blocks)) _ _ _ _ v2 v2.heap.size (Nat.le_refl _) (T5.out.rep (u1 := .bool true) (u2 := .bool true) hfh.out rfl rfl) (T6.out.rep (u1 := .bool true) (u2 := .bool true) hfh.out rfl rfl)
                  rwa [decide_eq_true rfl] at this)
                have hwu : Hid (Below w.heap.size w v2) := hide (((hbX.out.trans (hk8.mono hbX.out.size)).trans (hO1.to_below (B' := w.heap.size) (fun k hk => by have := hk.1; omega) (by omega))).trans (hO2.to_below (B' := w.heap.size) (fun k hk => by have := hk.1; omega) (by omega)))
                go_wp2_with (fail)
                refine cE.out.mono ?_
                rintro e v3 ⟨rfl, hb9⟩
                have hfin : Hid (Below w.heap.size w v3) := hide (hwu.out.trans (hb9.mono hwu.out.size))
                go_wp2
                go_ret
                exact ⟨rfl, hfin.out⟩
end Go.Proofs.Ytaljdbmmjgmbbaa
