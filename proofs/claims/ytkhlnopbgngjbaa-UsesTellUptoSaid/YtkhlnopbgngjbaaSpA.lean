/- lathelaw02.Spoil: it writes over the set's blocks alone. No condition. -/
import Derived.Test.YtkhlnopbgngjbaaSp
import Derived.Test.YtkhlnopbgngjbaaOf
namespace Go.Proofs.Ytkhlnopbgngjbaa
open Go.RowKit
set_option linter.unusedSimpArgs false
set_option linter.unusedVariables false

section
variable {S : Nat → Nat → Prop} {w w' W : World}
theorem Ty.refl (S : Nat → Nat → Prop) (w : World) : Ty S w w := fun _ _ _ c _ hc => ⟨c, hc, rfl⟩
theorem Ty.trans {a b c : World} (h : Ty S a b) (h' : Ty S b c) : Ty S a c := fun k m hs cs t hc => by
  obtain ⟨c1, h1, h2⟩ := h k m hs cs t hc
  obtain ⟨c2, h3, h4⟩ := h' k m hs c1 t h1
  exact ⟨c2, h3, h4.trans h2⟩
theorem Ty.heap (h : Ty S W w) (e : ∀ k, Dm S k → w'.heap[k]? = w.heap[k]?) : Ty S W w' := fun k m hs cs t hc => by
  obtain ⟨c1, h1, h2⟩ := h k m hs cs t hc
  exact ⟨c1, (e k ⟨m, hs⟩).trans h1, h2⟩
theorem Ty.setCell (h : Ty S W w) (g j : Nat) (v : Value) : Ty S W (w.setCell ⟨g, j, none⟩ v) := fun k m hs cs t hc => by
  obtain ⟨c1, h1, h2⟩ := h k m hs cs t hc
  by_cases e : k = g
  · subst e; exact ⟨_, set_heap h1, by simpa using h2⟩
  · exact ⟨c1, (Below.heap_setCell _ _ _ _ e).trans h1, h2⟩
def put7 (w : World) (g o : Nat) (a : Int) : World := ((((((w.setCell ⟨g, o, none⟩ (.int .i64 a)).setCell ⟨g, o + 1, none⟩ (.int .i64 0)).setCell ⟨g, o + 2, none⟩ (.int .i64 0)).setCell ⟨g, o + 3, none⟩ (.int .i64 0)).setCell ⟨g, o + 4, none⟩ (.int .i64 0)).setCell ⟨g, o + 5, none⟩ (.slice none 0 0)).setCell ⟨g, o + 6, none⟩ (.slice none 0 0)
theorem Sh.put7 (h : Sh S w) {g k : Nat} {c : Array Value} (hg : w.heap[g]? = some (.cells c 74 (0, 0))) (a : Int) : Sh S (put7 w g (k * 7) a) := by
  unfold Go.Proofs.Ytkhlnopbgngjbaa.put7
  have one : ∀ (w : World) (c : Array Value) (j : Nat) (v : Value), Sh S w → w.heap[g]? = some (.cells c 74 (0, 0)) → (∀ w', CellOk S w' 74 j v) → Sh S (w.setCell ⟨g, j, none⟩ v) ∧ ∃ c', (w.setCell ⟨g, j, none⟩ v).heap[g]? = some (.cells c' 74 (0, 0)) := fun w c j v h hg hv => ⟨h.set hg (hv w), _, set_heap hg⟩
  obtain ⟨s1, c1, g1⟩ := one _ _ (k * 7) (.int .i64 a) h hg fun w' => cellOk_instr (fun e => by omega) (fun e => by omega) (fun _ => ⟨_, rfl⟩)
  obtain ⟨s2, c2, g2⟩ := one _ _ (k * 7 + 1) (.int .i64 0) s1 g1 fun w' => cellOk_instr (fun e => by omega) (fun e => by omega) (fun _ => ⟨_, rfl⟩)
  obtain ⟨s3, c3, g3⟩ := one _ _ (k * 7 + 2) (.int .i64 0) s2 g2 fun w' => cellOk_instr (fun e => by omega) (fun e => by omega) (fun _ => ⟨_, rfl⟩)
  obtain ⟨s4, c4, g4⟩ := one _ _ (k * 7 + 3) (.int .i64 0) s3 g3 fun w' => cellOk_instr (fun e => by omega) (fun e => by omega) (fun _ => ⟨_, rfl⟩)
  obtain ⟨s5, c5, g5⟩ := one _ _ (k * 7 + 4) (.int .i64 0) s4 g4 fun w' => cellOk_instr (fun e => by omega) (fun e => by omega) (fun _ => ⟨_, rfl⟩)
  obtain ⟨s6, c6, g6⟩ := one _ _ (k * 7 + 5) (.slice none 0 0) s5 g5 fun w' => cellOk_instr (fun e => .none_) (fun e => by omega) (fun e => by omega)
  exact (one _ _ (k * 7 + 6) (.slice none 0 0) s6 g6 fun w' => cellOk_instr (fun e => by omega) (fun e => .none_) (fun e => by omega)).1
theorem Sh.put3 (h : Sh S w) {g o : Nat} {c : Array Value} (hg : w.heap[g]? = some (.cells c 77 (0, 0))) (a b d : Value) : Sh S (((w.setCell ⟨g, o, none⟩ a).setCell ⟨g, o + 1, none⟩ b).setCell ⟨g, o + 2, none⟩ d) :=
  ((h.set hg cellOk_value).set (set_heap hg) cellOk_value).set (set_heap (set_heap hg)) cellOk_value
theorem Sh.seven (h : Sh S w) {g m k n : Nat} {c0 : Array Value} (hs : S g m) (hc : w.heap[g]? = some (.cells c0 74 (0, 0))) (hk : k < n) (hn : n * 7 ≤ m) : ∃ (u0 u1 u2 u3 u4 : Int) (A : Option Addr) (a C : Nat) (A' : Option Addr) (a' C' : Nat), w.cell? ⟨g, k * 7, none⟩ = some (.int .i64 u0) ∧ w.cell? ⟨g, k * 7 + 1, none⟩ = some (.int .i64 u1) ∧ w.cell? ⟨g, k * 7 + 2, none⟩ = some (.int .i64 u2) ∧ w.cell? ⟨g, k * 7 + 3, none⟩ = some (.int .i64 u3) ∧ w.cell? ⟨g, k * 7 + 4, none⟩ = some (.int .i64 u4) ∧ w.cell? ⟨g, k * 7 + 5, none⟩ = some (.slice A a C) ∧ w.cell? ⟨g, k * 7 + 6, none⟩ = some (.slice A' a' C') ∧ SlOk S w 77 3 (.slice A a C) ∧ SlOk S w 3 1 (.slice A' a' C') := by
  obtain ⟨-, hce⟩ := h.cells hs hc
  obtain ⟨v0, h0, o0⟩ := hce (k * 7) (by omega)
  obtain ⟨u0, rfl⟩ := (o0.2.1 rfl).2.2 (by omega)
  obtain ⟨v1, h1, o1⟩ := hce (k * 7 + 1) (by omega)
  obtain ⟨u1, rfl⟩ := (o1.2.1 rfl).2.2 (by omega)
  obtain ⟨v2, h2, o2⟩ := hce (k * 7 + 2) (by omega)
  obtain ⟨u2, rfl⟩ := (o2.2.1 rfl).2.2 (by omega)
  obtain ⟨v3, h3, o3⟩ := hce (k * 7 + 3) (by omega)
  obtain ⟨u3, rfl⟩ := (o3.2.1 rfl).2.2 (by omega)
  obtain ⟨v4, h4, o4⟩ := hce (k * 7 + 4) (by omega)
  obtain ⟨u4, rfl⟩ := (o4.2.1 rfl).2.2 (by omega)
  obtain ⟨u5, h5, o5⟩ := hce (k * 7 + 5) (by omega)
  obtain ⟨u6, h6, o6⟩ := hce (k * 7 + 6) (by omega)
  have s5 := (o5.2.1 rfl).1 (by omega)
  have s6 := (o6.2.1 rfl).2.1 (by omega)
  obtain ⟨A, a, C, e5, -⟩ := id s5
  obtain ⟨A', a', C', e6, -⟩ := id s6
  subst e5; subst e6
  exact ⟨u0, u1, u2, u3, u4, A, a, C, A', a', C', h0, h1, h2, h3, h4, h5, h6, s5, s6⟩
theorem type_ne {g g' : Nat} {c c' : Array Value} {T T' : TypeId} (h : w.heap[g]? = some (.cells c T (0, 0))) (h' : w.heap[g']? = some (.cells c' T' (0, 0))) (hT : T ≠ T') : g ≠ g' := by
  rintro rfl
  rw [h] at h'
  injection h' with h'
  injection h' with _ h1
  exact hT h1
end
def SpoilPost (S : Nat → Nat → Prop) (w : World) (e : Ending) (w' : World) : Prop := e = .returned (.tuple #[]) ∧ Only (Dm S) w.heap.size w w' ∧ Sh S w' ∧ Ty S w w'

set_option maxRecDepth 100000 in
set_option maxHeartbeats 12800000 in
theorem spoil_any (nm : ByteArray) (ret : Int) (A1 : Option Addr) (np k1 : Nat) (A2 : Option Addr) (n k2 : Nat) (S : Nat → Nat → Prop) (w : World) (hSh : Sh S w) (hp : SlOk S w 3 1 (.slice A1 np k1)) (hb : SlOk S w 71 1 (.slice A2 n k2)) :
    Calls Try.prog 21 #[.agg #[.string nm, .slice A1 np k1, .int .i64 ret, .slice A2 n k2]] w (SpoilPost S w) := by
  have hnp8 : np ≤ 2000000 := by obtain ⟨_, _, _, e, h, -⟩ := hp; cases e; exact h
  have hn8 : n ≤ 2000000 := by obtain ⟨_, _, _, e, h, -⟩ := hb; cases e; exact h
  obtain ⟨W, hW, hwW, hWs, hx⟩ := boxes1 w #[.string nm, .slice A1 np k1, .int .i64 ret, .slice A2 n k2] 25
  have hNf : ¬ Dm S w.heap.size := fun h => by have := hSh.lt h; omega
  have z1 : ∀ w', Only (Dm S) W.heap.size W w' → w'.cell? ⟨w.heap.size, 1, none⟩ = some (.slice A1 np k1) := Only.fact (hx 1 _ rfl W (Below.refl _ _)) (by omega) hNf
  have z3 : ∀ w', Only (Dm S) W.heap.size W w' → w'.cell? ⟨w.heap.size, 3, none⟩ = some (.slice A2 n k2) := Only.fact (hx 3 _ rfl W (Below.refl _ _)) (by omega) hNf
  have hkW : ∀ k, Dm S k → W.heap[k]? = w.heap[k]? := fun k hk => hwW.block k (hSh.lt hk)
  have hShW := hide (hSh.kept hkW)
  have hTyW := hide (Ty.refl S W)
  have hP := hide (hp.later ((Ty.refl S w).heap hkW))
  have hBl := hide (hb.later ((Ty.refl S w).heap hkW))
  have hTw := hide ((Ty.refl S w).heap hkW)
  have hself := Only.refl (Dm S) W.heap.size W
  have hwWh := hide hwW
  replace hWs := hide hWs
  clear hx hSh hp hb hNf hkW hwW
  go_enter Try.func21, Try.ntmps21
  go_wp2
  go_loopw [11] (fun u wr => ∃ i : Nat, u = .int .i64 i ∧ i ≤ np ∧ Hid (Sh S wr) ∧ Hid (Ty S W wr) ∧ Only (Dm S) W.heap.size W wr) (fun u _ => np - (intOf u).toNat)
  case atStart => exact ⟨0, rfl, Nat.zero_le _, hShW, hTyW, hself⟩
  case round =>
    clear hShW hTyW hself
    obtain ⟨i, rfl, hi, hSh, hTy, hon⟩ := hrel
    by_cases hlt : i < np
    · have hii : (i : Int) < (np : Int) := by omega
      obtain ⟨_, _, _, he, -, g⟩ := hP.out.later hTy.out
      cases he
      obtain ⟨gP, mP, rfl, hs, hm, c, hc⟩ := g (by omega)
      obtain ⟨u0, r0, -⟩ := (hSh.out.cells hs hc).2 i (by omega)
      have f0 : wr.frozen? ⟨gP, i, none⟩ = false := one_free hc
      have hSh2 := hide (hSh.out.set (j := i) (v := .int .i64 (-9)) hc cellOk_int)
      have hTy2 := hide (hTy.out.setCell gP i (.int .i64 (-9)))
      have hon2 := hide (hon.setCell (p := ⟨gP, i, none⟩) (.inl ⟨mP, hs⟩) (.int .i64 (-9)))
      clear hs hm hc g hSh hTy
      go_wp2
      go_roundw
      case rel => exact ⟨i + 1, by go_num, hlt, hide (hSh2.out.kept fun _ _ => rfl), hide (hTy2.out.heap fun _ _ => rfl), (by first | exact hon2.out | exact hon2.out.drew)⟩
      case measure => simp [intOf]; omega
    · obtain rfl : i = np := by omega
      rename World => Y0
      go_wp2
      go_loopw [22] (fun u wr => ∃ i : Nat, u = .int .i64 i ∧ i ≤ n ∧ Hid (Sh S wr) ∧ Hid (Ty S W wr) ∧ Only (Dm S) W.heap.size W wr) (fun u _ => n - (intOf u).toNat)
      case atStart => exact ⟨0, rfl, Nat.zero_le _, hSh, hTy, hon⟩
      case round =>
        clear hSh hTy hon
        obtain ⟨i, rfl, hi, hSh, hTy, hon⟩ := hrel
        by_cases hlt : i < n
        · have hii : (i : Int) < (n : Int) := by omega
          obtain ⟨_, _, _, he, -, g⟩ := hBl.out.later hTy.out
          cases he
          obtain ⟨gB, mB, rfl, hsB, hmB, cB, hcB⟩ := g (by omega)
          obtain ⟨uB, rB, hok⟩ := (hSh.out.cells hsB hcB).2 i (by omega)
          have hCo := hok.1 rfl
          obtain ⟨Ac, nc, Cc, rfl, hnc8, -⟩ := id hCo
          rename World => Y
          have hgB : gB < Y.heap.size := (Array.getElem?_eq_some_iff.1 hcB).1
          have yB : ∀ w', Only (fun k => Dm S k ∧ k ≠ gB) Y.heap.size Y w' → w'.cell? ⟨gB, i, none⟩ = some (.slice Ac nc Cc) := Only.fact rB hgB (fun h => h.2 rfl)
          have yF : ∀ w', Only (fun k => Dm S k ∧ k ≠ gB) Y.heap.size Y w' → w'.frozen? ⟨gB, i, none⟩ = false := Only.free (one_free hcB) hgB (fun h => h.2 rfl)
          have hselfY := Only.refl (fun k => Dm S k ∧ k ≠ gB) Y.heap.size Y
          have honY := hide hon
          have hTyY := hide (Ty.refl S Y)
          have hYs := hon.size
          replace hsB := hide hsB
          replace hcB := hide hcB
          replace hCo := hide hCo
          clear hok hmB g rB
          go_wp2
          go_loopw [32] (fun u wr => ∃ k : Nat, u = .int .i64 k ∧ k ≤ nc ∧ Hid (Sh S wr) ∧ Hid (Ty S Y wr) ∧ Only (fun k => Dm S k ∧ k ≠ gB) Y.heap.size Y wr) (fun u _ => nc - (intOf u).toNat)
          case atStart => exact ⟨0, rfl, Nat.zero_le _, hSh, hTyY, hselfY⟩
          case round =>
            clear hSh hselfY hTyY hon
            obtain ⟨k, rfl, hk, hSh, hTyk, honB⟩ := hrel
            have hon : Only (Dm S) W.heap.size W wr := honY.out.trans ((honB.more fun _ _ h => h.1).mono hYs)
            by_cases hlt2 : k < nc
            · have hki : (k : Int) < (nc : Int) := by omega
              obtain ⟨_, _, _, he, -, g⟩ := hCo.out.later hTyk.out
              cases he
              obtain ⟨gC, mC, rfl, hsC, hmC, cC, hcC⟩ := g (by omega)
              obtain ⟨u0, u1, u2, u3, u4, Aa, na, Ca, At_, nt, Ct, r0, r1, r2, r3, r4, r5, r6, oA, oT⟩ := hSh.out.seven hsC hcC hlt2 hmC
              have hna8 : na ≤ 2000000 := by obtain ⟨_, _, _, e, h, -⟩ := oA; cases e; exact h
              have hnt8 : nt ≤ 2000000 := by obtain ⟨_, _, _, e, h, -⟩ := oT; cases e; exact h
              obtain ⟨cB', hcB', -⟩ := hTyk.out gB mB hsB.out cB _ hcB.out
              have hBC : gB ≠ gC := type_ne hcB' hcC (by decide)
              obtain ⟨X, hX, hwX, hXs, hxc⟩ := boxes1 wr #[.int .i64 u0, .int .i64 u1, .int .i64 u2, .int .i64 u3, .int .i64 u4, .slice Aa na Ca, .slice At_ nt Ct] 74
              have hNI : ¬ Dm S wr.heap.size := fun h => by have := hSh.out.lt h; omega
              have hkX : ∀ k, Dm S k → X.heap[k]? = wr.heap[k]? := fun k hk => hwX.block k (hSh.out.lt hk)
              have hShX := hide (hSh.out.kept hkX)
              have hTyX := hide (Ty.refl S X)
              have hTykX := hide (hTyk.out.heap hkX)
              have tX := (Ty.refl S wr).heap hkX
              replace oA := hide (oA.later tX)
              replace oT := hide (oT.later tX)
              have hcCX := (hkX gC ⟨mC, hsC⟩).trans hcC
              have hgC : gC < X.heap.size := (Array.getElem?_eq_some_iff.1 hcCX).1
              have x5 : ∀ w', Only (fun k => Dm S k ∧ k ≠ gB ∧ k ≠ gC) X.heap.size X w' → w'.cell? ⟨wr.heap.size, 5, none⟩ = some (.slice Aa na Ca) := Only.fact (hxc 5 _ rfl X (Below.refl _ _)) (by omega) fun h => hNI h.1
              have x6 : ∀ w', Only (fun k => Dm S k ∧ k ≠ gB ∧ k ≠ gC) X.heap.size X w' → w'.cell? ⟨wr.heap.size, 6, none⟩ = some (.slice At_ nt Ct) := Only.fact (hxc 6 _ rfl X (Below.refl _ _)) (by omega) fun h => hNI h.1
              have up : ∀ (j : Nat) u, wr.cell? ⟨gC, j, none⟩ = some u → ∀ w', Only (fun k => Dm S k ∧ k ≠ gB ∧ k ≠ gC) X.heap.size X w' → w'.cell? ⟨gC, j, none⟩ = some u := fun j u hu => Only.fact ((hwX.cell (p := ⟨gC, j, none⟩) (Array.getElem?_eq_some_iff.1 hcC).1).trans hu) hgC fun h => h.2.2 rfl
              have upF : ∀ (j : Nat), ∀ w', Only (fun k => Dm S k ∧ k ≠ gB ∧ k ≠ gC) X.heap.size X w' → w'.frozen? ⟨gC, j, none⟩ = false := fun j => Only.free (one_free hcCX) hgC fun h => h.2.2 rfl
              have c0 := hide (up _ _ r0)
              have c1 := hide (up _ _ r1)
              have c2 := hide (up _ _ r2)
              have c3 := hide (up _ _ r3)
              have c4 := hide (up _ _ r4)
              have c5 := hide (up _ _ r5)
              have c6 := hide (up _ _ r6)
              have upFh := hide upF
              have honX := hide (hon.then_below (Nat.le_refl _) (hwX.mono (Nat.le_refl _)))
              have honBX := hide (honB.then_below (Nat.le_refl _) (hwX.mono (Nat.le_refl _)))
              have hselfX := Only.refl (fun k => Dm S k ∧ k ≠ gB ∧ k ≠ gC) X.heap.size X
              have hXW : W.heap.size ≤ X.heap.size := by have := hon.size; omega
              have hXY : Y.heap.size ≤ X.heap.size := by have := honB.size; omega
              replace hBC := hide hBC
              replace hcC := hide hcC
              replace hcCX := hide hcCX
              replace hsC := hide hsC
              replace hwX := hide hwX
              replace hXs := hide hXs
              replace hcB' := hide hcB'
              clear hxc up upF tX hkX g hmC hNI
              go_upto_region 13 with (fail)
              try rw [hX]
              clear hX r0 r1 r2 r3 r4 r5 r6 hSh hTyk hon honB
              go_wp2
              go_loopw [47] (fun u wr => ∃ j : Nat, u = .int .i64 j ∧ j ≤ na ∧ Hid (Sh S wr) ∧ Hid (Ty S X wr) ∧ Only (fun k => Dm S k ∧ k ≠ gB ∧ k ≠ gC) X.heap.size X wr) (fun u _ => na - (intOf u).toNat)
              case atStart => exact ⟨0, rfl, Nat.zero_le _, hShX, hTyX, hselfX⟩
              case round =>
                clear hShX hTyX hselfX
                obtain ⟨j, rfl, hj, hSh, hTyj, honI⟩ := hrel
                by_cases hlt3 : j < na
                · have hji : (j : Int) < (na : Int) := by omega
                  obtain ⟨_, _, _, he, -, g⟩ := oA.out.later hTyj.out
                  cases he
                  obtain ⟨gA, mA, rfl, hsA, hmA, cA, hcA⟩ := g (by omega)
                  obtain ⟨v0, r0, -⟩ := (hSh.out.cells hsA hcA).2 (j * 3) (by omega)
                  obtain ⟨v1, r1, -⟩ := (hSh.out.cells hsA hcA).2 (j * 3 + 1) (by omega)
                  obtain ⟨v2, r2, -⟩ := (hSh.out.cells hsA hcA).2 (j * 3 + 2) (by omega)
                  have f0 : wr.frozen? ⟨gA, j * 3, none⟩ = false := one_free hcA
                  have f1 : wr.frozen? ⟨gA, j * 3 + 1, none⟩ = false := one_free hcA
                  have f2 : wr.frozen? ⟨gA, j * 3 + 2, none⟩ = false := one_free hcA
                  obtain ⟨cB1, hcB1, -⟩ := (hTykX.out.trans hTyj.out) gB mB hsB.out cB _ hcB.out
                  obtain ⟨cC1, hcC1, -⟩ := hTyj.out gC mC hsC.out cC _ hcCX.out
                  have hQ : Dm S gA ∧ gA ≠ gB ∧ gA ≠ gC := ⟨⟨mA, hsA⟩, type_ne hcA hcB1 (by decide), type_ne hcA hcC1 (by decide)⟩
                  have hSh2 := hide (hSh.out.put3 (o := j * 3) hcA (.int .i64 77) (.int .i64 j) (.int .u64 0))
                  have hTy2 := hide (((hTyj.out.setCell gA (j * 3) (.int .i64 77)).setCell gA (j * 3 + 1) (.int .i64 j)).setCell gA (j * 3 + 2) (.int .u64 0))
                  have hon2 := hide (((honI.setCell (p := ⟨gA, j * 3, none⟩) (.inl hQ) (.int .i64 77)).setCell (p := ⟨gA, j * 3 + 1, none⟩) (.inl hQ) (.int .i64 j)).setCell (p := ⟨gA, j * 3 + 2, none⟩) (.inl hQ) (.int .u64 0))
                  clear hsA hmA hcA g hSh hTyj hcB1 hcC1 hQ
                  go_wp2
                  go_roundw
                  case rel => exact ⟨j + 1, by go_num, hlt3, hide (hSh2.out.kept fun _ _ => rfl), hide (hTy2.out.heap fun _ _ => rfl), (by first | exact hon2.out | exact hon2.out.drew)⟩
                  case measure => simp [intOf]; omega
                · obtain rfl : j = na := by omega
                  rename World => Y1
                  go_wp2
                  go_loopw [60] (fun u wr => ∃ j : Nat, u = .int .i64 j ∧ j ≤ nt ∧ Hid (Sh S wr) ∧ Hid (Ty S X wr) ∧ Only (fun k => Dm S k ∧ k ≠ gB ∧ k ≠ gC) X.heap.size X wr) (fun u _ => nt - (intOf u).toNat)
                  case atStart => exact ⟨0, rfl, Nat.zero_le _, hSh, hTyj, honI⟩
                  case round =>
                    clear hSh hTyj honI
                    obtain ⟨j, rfl, hj, hSh, hTyj, honI⟩ := hrel
                    by_cases hlt3 : j < nt
                    · have hji : (j : Int) < (nt : Int) := by omega
                      obtain ⟨_, _, _, he, -, g⟩ := oT.out.later hTyj.out
                      cases he
                      obtain ⟨gA, mA, rfl, hsA, hmA, cA, hcA⟩ := g (by omega)
                      obtain ⟨v0, r0, -⟩ := (hSh.out.cells hsA hcA).2 j (by omega)
                      have f0 : wr.frozen? ⟨gA, j, none⟩ = false := one_free hcA
                      obtain ⟨cB1, hcB1, -⟩ := (hTykX.out.trans hTyj.out) gB mB hsB.out cB _ hcB.out
                      obtain ⟨cC1, hcC1, -⟩ := hTyj.out gC mC hsC.out cC _ hcCX.out
                      have hQ : Dm S gA ∧ gA ≠ gB ∧ gA ≠ gC := ⟨⟨mA, hsA⟩, type_ne hcA hcB1 (by decide), type_ne hcA hcC1 (by decide)⟩
                      have hSh2 := hide (hSh.out.set (j := j) (v := .int .i64 (-77)) hcA cellOk_int)
                      have hTy2 := hide (hTyj.out.setCell gA j (.int .i64 (-77)))
                      have hon2 := hide (honI.setCell (p := ⟨gA, j, none⟩) (.inl hQ) (.int .i64 (-77)))
                      clear hsA hmA hcA g hSh hTyj hcB1 hcC1 hQ
                      go_wp2
                      go_roundw
                      case rel => exact ⟨j + 1, by go_num, hlt3, hide (hSh2.out.kept fun _ _ => rfl), hide (hTy2.out.heap fun _ _ => rfl), (by first | exact hon2.out | exact hon2.out.drew)⟩
                      case measure => simp [intOf]; omega
                    · obtain rfl : j = nt := by omega
                      have hon : Only (Dm S) W.heap.size W wr := honX.out.trans ((honI.more fun _ _ h => h.1).mono hXW)
                      have honB : Only (fun k => Dm S k ∧ k ≠ gB) Y.heap.size Y wr := honBX.out.trans ((honI.more fun _ _ h => ⟨h.1, h.2.1⟩).mono hXY)
                      have r0 := c0.out wr honI
                      have r1 := c1.out wr honI
                      have r2 := c2.out wr honI
                      have r3 := c3.out wr honI
                      have r4 := c4.out wr honI
                      have r5 := c5.out wr honI
                      have r6 := c6.out wr honI
                      have f0 := upFh.out (k * 7) wr honI
                      have f1 := upFh.out (k * 7 + 1) wr honI
                      have f2 := upFh.out (k * 7 + 2) wr honI
                      have f3 := upFh.out (k * 7 + 3) wr honI
                      have f4 := upFh.out (k * 7 + 4) wr honI
                      have f5 := upFh.out (k * 7 + 5) wr honI
                      have f6 := upFh.out (k * 7 + 6) wr honI
                      obtain ⟨cC1, hcC1, -⟩ := hTyj.out gC mC hsC.out cC _ hcCX.out
                      have hSh2 := hide (hSh.out.put7 (k := k) hcC1 (-7))
                      have hTy2 := hide (((((((hTykX.out.trans hTyj.out).setCell gC (k * 7) (.int .i64 (-7))).setCell gC (k * 7 + 1) (.int .i64 0)).setCell gC (k * 7 + 2) (.int .i64 0)).setCell gC (k * 7 + 3) (.int .i64 0)).setCell gC (k * 7 + 4) (.int .i64 0)).setCell gC (k * 7 + 5) (.slice none 0 0) |>.setCell gC (k * 7 + 6) (.slice none 0 0))
                      have hQ : Dm S gC ∧ gC ≠ gB := ⟨⟨mC, hsC.out⟩, fun e => hBC.out e.symm⟩
                      have hon2 := hide (((((((honB.setCell (p := ⟨gC, k * 7, none⟩) (.inl hQ) (.int .i64 (-7))).setCell (p := ⟨gC, k * 7 + 1, none⟩) (.inl hQ) (.int .i64 0)).setCell (p := ⟨gC, k * 7 + 2, none⟩) (.inl hQ) (.int .i64 0)).setCell (p := ⟨gC, k * 7 + 3, none⟩) (.inl hQ) (.int .i64 0)).setCell (p := ⟨gC, k * 7 + 4, none⟩) (.inl hQ) (.int .i64 0)).setCell (p := ⟨gC, k * 7 + 5, none⟩) (.inl hQ) (.slice none 0 0)).setCell (p := ⟨gC, k * 7 + 6, none⟩) (.inl hQ) (.slice none 0 0))
                      clear hcC1 hQ hSh hTyj x5 x6
                      go_wp2
                      go_roundw
                      case rel => exact ⟨k + 1, by go_num, hlt2, hide (hSh2.out.kept fun _ _ => rfl), hide (hTy2.out.heap fun _ _ => rfl), (by first | exact hon2.out | exact hon2.out.drew)⟩
                      case measure => simp [intOf]; omega
            · obtain rfl : k = nc := by omega
              have r0 := yB wr honB
              have f0 := yF wr honB
              obtain ⟨cB1, hcB1, -⟩ := hTyk.out gB mB hsB.out cB _ hcB.out
              have hSh2 := hide (hSh.out.set (j := i) (v := .slice none 0 0) hcB1 (cellOk_block .none_))
              have hTy2 := hide ((hTy.out.trans hTyk.out).setCell gB i (.slice none 0 0))
              have hon2 := hide (hon.setCell (p := ⟨gB, i, none⟩) (.inl ⟨mB, hsB.out⟩) (.slice none 0 0))
              clear hcB1 hSh hTyk
              go_wp2
              go_roundw
              case rel => exact ⟨i + 1, by go_num, hlt, hide (hSh2.out.kept fun _ _ => rfl), hide (hTy2.out.heap fun _ _ => rfl), (by first | exact hon2.out | exact hon2.out.drew)⟩
              case measure => simp [intOf]; omega
        · obtain rfl : i = n := by omega
          go_wp2
          go_end0
          exact ⟨rfl, (Only.of_below hwWh.out).trans (hon.mono hwWh.out.size), hSh.out, hTw.out.trans hTy.out⟩
end Go.Proofs.Ytkhlnopbgngjbaa
