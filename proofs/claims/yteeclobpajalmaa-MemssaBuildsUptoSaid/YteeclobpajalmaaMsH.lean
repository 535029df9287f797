/- memssa's builder: what the accesses stand on, walked down the tree. No condition but sizes. -/
import Derived.Test.YteeclobpajalmaaMsG
import Derived.Deep.RegionHeld3
import Derived.Deep.QuietTactic
import Derived.BigQuiet
namespace Go.Proofs.Yteeclobpajalmaa
open Go.RowKit
set_option linter.unusedSimpArgs false
set_option linter.unusedVariables false

theorem nd_len {K : List (Nat × Int)} {n : Nat} (hd : (K.map Prod.fst).Nodup) (hin : ∀ b z, (b, z) ∈ K → b < n) : K.length ≤ n := by
  have h0 : (K.map Prod.fst).length = K.length := by simp
  have h1 : ((List.range n).filter fun x => decide (x ∈ K.map Prod.fst)).length ≤ n := by
    have := List.length_filter_le (fun x => decide (x ∈ K.map Prod.fst)) (List.range n); simpa using this
  have h2 : (K.map Prod.fst).Perm ((List.range n).filter fun x => decide (x ∈ K.map Prod.fst)) := by
    rw [List.perm_ext_iff_of_nodup hd (List.nodup_range.filter _)]
    intro x
    simp only [List.mem_filter, List.mem_range, decide_eq_true_eq]
    refine ⟨fun hx => ⟨?_, hx⟩, fun hx => hx.2⟩
    obtain ⟨⟨b, z⟩, h3, rfl⟩ := List.mem_map.1 hx
    exact hin b z h3
  rw [← h0, h2.length_eq]; exact h1
/-- nothing but draws between them -/
def SameW (V w : World) : Prop := w.heap = V.heap ∧ w.os = V.os ∧ w.tape = V.tape ∧ w.output = V.output
theorem SameW.only {V w : World} (h : SameW V w) {S : Nat → Prop} {B : Nat} {a : World} (ho : Only S B a V) : Only S B a w := ⟨h.2.1.trans ho.os, h.2.2.1.trans ho.tape, h.2.2.2.trans ho.output, by rw [h.1]; exact ho.size, fun k hk hs => by rw [h.1]; exact ho.block k hk hs⟩
theorem OwnPr.far {w w' : World} {B : Nat} {v : Value} {l : List (Nat × Int)} (h : OwnPr w B v l) (hk : ∀ k, v.ownBlock = some k → w'.heap[k]? = w.heap[k]?) : OwnPr w' B v l := row_kept h hk
theorem rows_only {X : World} {B g n : Nat} {no : Option Nat} {ls : List (List Int)} {cs : List Value} {S : Nat → Prop} (h : OwnL X B no (.slice (some ⟨g, 0, none⟩) n n) ls cs) (hn : ls.length = n) (hS : ∀ q, S q → q < B) : ∀ (t : Nat) p, ls[t]? = some p → ∃ A C, (∀ w', Only S X.heap.size X w' → w'.cell? ⟨g, t, none⟩ = some (.slice A p.length C)) ∧
    (0 < p.length → ∃ g, A = some ⟨g, 0, none⟩ ∧ ∀ (i : Nat) x, p[i]? = some x → ∀ w', Only S X.heap.size X w' → w'.cell? ⟨g, i, none⟩ = some (.int .i64 x)) := by
  intro t p hp
  obtain ⟨c, hc, hI⟩ := h.at_ hp
  obtain ⟨A, C, rfl⟩ := row_form hI.row
  have hg := row_lt h.row (k := g) rfl
  refine ⟨A, C, fun w' hb => ?_, fun hl => ?_⟩
  · rw [hb.cell (p := ⟨g, t, none⟩) hg.2.1 (fun hs => by have := hS _ hs; have h1 := hg.1; have h2 : g < B := this; omega)]
    subst hn
    rw [World.ownsRow.cellAt h.row t (by have := (List.getElem?_eq_some_iff.1 hp).1; omega)]
    exact hc
  · obtain ⟨q, cap, hv, -, -⟩ := hI.row.form hl
    cases hv
    have hq := row_lt hI.row (k := q) rfl
    refine ⟨q, rfl, fun i x hi w' hb => ?_⟩
    rw [hb.cell (p := ⟨q, i, none⟩) hq.2.1 (fun hs => by have := hS _ hs; have h1 := hq.1; have h2 : q < B := this; omega), World.ownsRow.cellAt hI.row i (by have := (List.getElem?_eq_some_iff.1 hi).1; omega), List.getElem?_map, hi]
    rfl
section
variable {w : World} {B Bo gB gp gf ge : Nat} {x0 x1 x2 x3 : Value} {n : Nat} {ls : List Ac} {es : List AcV} {Lp Lf Le : List Int}
theorem Bld.but {w' : World} {T : TypeId} {vO : Value} (h : Bld w B Bo gB gp gf ge x0 x1 x2 x3 vO n ls es Lp Lf Le) (hb : But T w w') (h1 : 68 ≠ T) (h2 : 37 ≠ T) (h3 : 3 ≠ T) : Bld w' B Bo gB gp gf ge x0 x1 x2 x3 vO n ls es Lp Lf Le :=
  ⟨(hb _ _ _ _ h.box h1).trans h.box, h.low, h.bo, h.out.far (fun k hk => by
    obtain ⟨-, -, c, hc⟩ := row_lt h.out.row hk
    exact hb k c _ _ hc h2) (fun i e k he hk => by
    obtain ⟨-, -, c, hc⟩ := h.out.in_lt he hk
    exact hb k c _ _ hc h3), hb.row h3 h.p, hb.row h3 h.f, hb.row h3 h.e, h.pf, h.pe, h.fe, h.sep⟩
/-- one access is told what it stands on -/
theorem Bld.tell {go N Co i : Nat} {k b p on : Int} (h : Bld w B Bo gB gp gf ge x0 x1 x2 x3 (.slice (some ⟨go, 0, none⟩) N Co) n ls es Lp Lf Le) (hx : ls[i]? = some ⟨k, b, p, [], []⟩) (hon : I64 on) :
    ∃ es', Bld ((w.alloc (.cells #[.int .i64 on] 3)).setCell ⟨go, i * 5 + 3, none⟩ (.slice (some ⟨w.heap.size, 0, none⟩) 1 1)) B Bo gB gp gf ge x0 x1 x2 x3 (.slice (some ⟨go, 0, none⟩) N Co) n (ls.set i ⟨k, b, p, [on], []⟩) es' Lp Lf Le := by
  obtain ⟨e, he⟩ := h.out.at_ hx
  have hgo := row_lt h.out.row (k := go) rfl
  have h1 := h.below (bk w (.cells #[.int .i64 on] 3))
  have hN := h.out.num
  have hN' : N = ls.length := hN
  obtain ⟨-, hf⟩ := h.out.inn i _ e hx he
  have hfl : ∀ q, e.f.ownBlock = some q → Bo ≤ q ∧ q < w.heap.size ∧ q ≠ go := fun q hq => by
    obtain ⟨a1, a2, c, a3⟩ := row_lt hf.row hq
    obtain ⟨c', a4⟩ := hgo.2.2
    exact ⟨a1, a2, blk_ne a3 a4 (by decide)⟩
  have hne : ∀ {g : Nat} {l : List Int}, OwnN w B g n l → g ≠ go := fun hg => by
    obtain ⟨c, hc⟩ := hg.blk
    obtain ⟨c', a4⟩ := hgo.2.2
    exact blk_ne hc a4 (by decide)
  have hput : ((w.alloc (.cells #[.int .i64 on] 3)).setCell ⟨go, i * 5 + 3, none⟩ (.slice (some ⟨w.heap.size, 0, none⟩) 1 1)).ownsRow Bo 37 5 (.slice (some ⟨go, 0, none⟩) N Co) N (List.zipWith acC (ls.set i ⟨k, b, p, [on], []⟩) (es.set i ⟨.slice (some ⟨w.heap.size, 0, none⟩) 1 1, e.f⟩)).flatten := by
    have hr := h1.out.row
    rw [← hN'] at hr
    have := ac_row_put (j := 3) (u := .slice (some ⟨w.heap.size, 0, none⟩) 1 1) hr acC_all (acC_at hx he) (by omega)
    rw [← zip_set h.out.len (List.getElem?_eq_some_iff.1 hx).1]
    exact this
  have hlit : OwnI (w.alloc (.cells #[.int .i64 on] 3)) Bo (.slice (some ⟨w.heap.size, 0, none⟩) 1 1) [on] := own_lit rfl rfl (fun x hx => by rw [List.mem_singleton.1 hx]; exact hon) rfl (by have := hgo; omega) (by simp)
  refine ⟨es.set i ⟨.slice (some ⟨w.heap.size, 0, none⟩) 1 1, e.f⟩, ⟨set_far h1.box (by
    obtain ⟨c', a4⟩ := hgo.2.2
    exact blk_ne h.box a4 (by decide)), h.low, h.bo, h.out.remake (x' := ⟨k, b, p, [on], []⟩) (e' := ⟨.slice (some ⟨w.heap.size, 0, none⟩) 1 1, e.f⟩) hx he hput ⟨row_kept hlit.row fun q hq => Below.heap_setCell _ _ _ _ ?_, hlit.ok⟩ ⟨row_kept hf.row fun q hq => ?_, hf.ok⟩ (fun q hq => ?_) (fun q h2 h3 h4 h5 => ?_) (fun q hq => ?_), h1.p.keep (Below.heap_setCell _ _ _ _ (hne h.p)), h1.f.keep (Below.heap_setCell _ _ _ _ (hne h.f)), h1.e.keep (Below.heap_setCell _ _ _ _ (hne h.e)), h.pf, h.pe, h.fe, fun j ej q hj hq => ?_⟩⟩
  · have e9 : w.heap.size = q := Option.some.inj hq
    subst e9
    show w.heap.size ≠ go
    omega
  · obtain ⟨a1, a2, a3⟩ := hfl q hq
    rw [Below.heap_setCell _ _ _ _ (show q ≠ (⟨go, i * 5 + 3, none⟩ : Addr).block from a3), Below.heap_alloc _ _ _ a2]
  · have e9 : w.heap.size = q := Option.some.inj hq
    subst e9
    intro hq
    have := (hfl _ hq).2.1
    omega
  · rw [Below.heap_setCell _ _ _ _ (show q ≠ (⟨go, i * 5 + 3, none⟩ : Addr).block from h5), Below.heap_alloc _ _ _ h3]
  · rcases hq with hq | hq
    · have e9 : w.heap.size = q := Option.some.inj hq
      exact .inr (by omega)
    · exact .inl (.inr hq)
  · by_cases e2 : i = j
    · subst e2
      rw [List.getElem?_set_self (by have := (List.getElem?_eq_some_iff.1 he).1; exact this)] at hj
      cases hj
      rcases hq with hq | hq
      · have e9 : w.heap.size = q := Option.some.inj hq
        have h4 := h.p.lt
        have h5 := h.f.lt
        have h6 := h.e.lt
        omega
      · exact h.sep i e q he (.inr hq)
    · rw [List.getElem?_set_ne e2] at hj
      exact h.sep j ej q hj hq
end
/-- what the builder's stand leaves -/
def StandPost (f : Fun) (H : Nat → Bool) (O : List Int) (sc : Int → List Int) (P : List (List Int)) (n B Bo gB gp gf ge : Nat) (x1 x3 vO : Value) (Lp Lf : List Int) (w : World) (e : Ending) (w' : World) : Prop :=
  ∃ l es, e = .returned (.tuple #[]) ∧ IdomOk sc O n l ∧ Bld w' B Bo gB gp gf ge (.string f.name) x1 (.int .i64 f.ret) x3 vO n (stoodA (laidA f.blocks H O n) l O P) es Lp Lf (endsL (laidA f.blocks H O n) l O n) ∧ Below B w w'
set_option maxRecDepth 100000 in
set_option maxHeartbeats 12800000 in
theorem stand_any (f : Fun) (H : Nat → Bool) (O : List Int) (sc : Int → List Int) (P : List (List Int)) (n : Nat) (hn : Hid (n = f.blocks.length)) (hO : Hid (O = orderF f.blocks)) (hsc : Hid (sc = succsF f.blocks)) (A1 A2 : Option Addr) (k1 k2 : Nat) (w : World) (B Bo gB gp gf ge : Nat) (vO : Value) (Lp Lf Le : List Int) (hB : B ≤ w.heap.size)
    (hf : RFun.rep w B [.string f.name, .slice A1 f.params.length k1, .int .i64 f.ret, .slice A2 n k2] f) (hsz : funSz f ≤ 2000000) (hn0 : 0 < n)
    (hb : Bld w B Bo gB gp gf ge (.string f.name) (.slice A1 f.params.length k1) (.int .i64 f.ret) (.slice A2 n k2) vO n (laidA f.blocks H O n) (neA (laidA f.blocks H O n)) Lp Lf Le) (hlk : LayK f.blocks H O n Lp Lf Le) :
    Calls Try.prog 35 #[.pointer (some ⟨gB, 0, none⟩)] w (StandPost f H O sc P n B Bo gB gp gf ge (.slice A1 f.params.length k1) (.slice A2 n k2) vO Lp Lf w) := by
  have hs : Small f := small_of hsz
  have hLm : Hid ((laidA f.blocks H O n).length ≤ 4000001) := hide (laidA_small hsz (by rw [hn.out]; exact Nat.le_refl _))
  have hnle : n ≤ 2000000 := by rw [hn.out]; exact hs.blocks
  have hok : Hid (OrderOk n sc O) := hide (by rw [hO.out, hn.out, hsc.out]; exact order_ok _)
  have h0O : Hid ((0 : Int) ∈ O) := hide ((ord_ok hok.out hn0).zero)
  obtain ⟨i0, hi0, hz0, hz1, hz2⟩ := cinfo_parts cinfo_pair
  replace hi0 := hide hi0
  replace hz0 := hide hz0
  replace hz1 := hide hz1
  replace hz2 := hide hz2
  have cT : Hid (Calls Try.prog 64 #[f.v (.slice A1 f.params.length k1) (.slice A2 n k2)] w (TreePost sc O n w)) := hide (by
    have := tree_any f (.slice A1 f.params.length k1) (.slice A2 n k2) w B hB hf hs
    rwa [← hO.out, ← hsc.out, ← hn.out] at this)
  obtain ⟨Ao, Co, rfl⟩ := hb.form
  obtain ⟨go, rfl⟩ : ∃ go, Ao = some ⟨go, 0, none⟩ := by
    obtain ⟨g, cap, hv, -, -⟩ := hb.out.row.form (laidA_pos n)
    cases hv
    exact ⟨g, rfl⟩
  obtain ⟨N, hN⟩ : ∃ N, Hid (N = (laidA f.blocks H O n).length) := ⟨_, hide rfl⟩
  have hNle : N ≤ 4000001 := by rw [hN.out]; exact hLm.out
  rw [← hN.out] at hb ⊢
  obtain ⟨y0, y1, y2, y3, y4, y5, y6, y7⟩ := hb.cells
  have hgl : gB < w.heap.size ∧ gp < w.heap.size ∧ gf < w.heap.size ∧ ge < w.heap.size := ⟨hb.lt, hb.p.lt.2, hb.f.lt.2, hb.e.lt.2⟩
  have hgw : B ≤ gB ∧ B ≤ gp ∧ B ≤ gf ∧ B ≤ ge := ⟨hb.low, hb.p.lt.1, hb.f.lt.1, hb.e.lt.1⟩
  have hgo := row_lt hb.out.row (k := go) rfl
  have hgoB : B ≤ go ∧ go < w.heap.size := ⟨Nat.le_trans hb.bo hgo.1, hgo.2.1⟩
  replace hs := hide hs
  replace hf := hide hf
  replace hsz := hide hsz
  replace hgo := hide hgo
  go_enter Try.func35, Try.ntmps35
  go_wp2_with (fail)
  refine cT.out.mono ?_
  rintro e X1 ⟨gt, cs, l, rfl, hI, hT, hb1⟩
  have hs1 := hb1.size
  have hrw := hide (rows_only (S := fun q => B ≤ q ∧ q < w.heap.size) hT (treeL_len l n n) (fun q hq => hq.2))
  have hBx := hb.below hb1
  have hPr := OwnPr.lit X1
  have hB1 := hBx.below (bk X1 (.cells #[.int .i64 0, .int .i64 0] 97))
  have hon0 : Only (fun q => B ≤ q ∧ q < w.heap.size) X1.heap.size X1 (X1.alloc (.cells #[.int .i64 0, .int .i64 0] 97)) := (Only.refl _ _ X1).alloc (Nat.le_refl _) _
  replace hI := hide hI
  replace hBx := hide hBx
  replace hb := hide hb
  clear hT y0 y1 y2 y3 y4 y5 y6 y7 cT
  go_upto_region 2 with (fail)
  obtain ⟨Z, hZ⟩ : ∃ Z, Hid (X1.alloc (.cells #[.int .i64 0, .int .i64 0] 97) = Z) := ⟨_, hide rfl⟩
  rw [hZ.out] at hPr hB1 hon0 ⊢
  replace hPr := hide hPr
  replace hB1 := hide hB1
  have hSk := hide (sk_start (L := (laidA f.blocks H O n)) (l := l) hn0 h0O.out)
  have hSt : Hid (∃ b0, StdI f.blocks H O l P n [] b0 0 (laidA f.blocks H O n)) := hide ⟨0, std_start⟩
  have hEn := hide (end_start (bs := f.blocks) (H := H) (o := O) (l := l) hlk.e)
  clear hZ
  go_loopg [3] n (fun g s wr => ∃ (A : Option Addr) (C : Nat) (K : List (Nat × Int)) (V : List Nat) (Le : List Int) (es : List AcV) (ls : List Ac), s = .slice A K.length C ∧ Hid (g + V.length = n) ∧ Hid (SkI (laidA f.blocks H O n) l O n V K) ∧ Hid (Bld wr B Bo gB gp gf ge (.string f.name) (.slice A1 f.params.length k1) (.int .i64 f.ret) (.slice A2 n k2) (.slice (some ⟨go, 0, none⟩) N Co) n ls es Lp Lf Le) ∧ Hid (∃ b0, StdI f.blocks H O l P n V b0 0 ls) ∧ Hid (EndI f.blocks H O l n V Le) ∧ Hid (OwnPr wr X1.heap.size (.slice A K.length C) K) ∧ Only (fun q => B ≤ q ∧ q < w.heap.size) X1.heap.size X1 wr)
  case atStart => exact ⟨some ⟨X1.heap.size, 0, none⟩, 1, _, [], Le, _, _, rfl, hide rfl, hSk, hB1, hSt, hEn, hPr, hon0⟩
  case round =>
    clear hSk hB1 hSt hEn hPr hon0 hBx
    rename World => V0
    obtain ⟨A, C, K, V, Le, es, ls, rfl, hg, hSk, hBv, hSt, hEn, hPr, hon⟩ := hrel
    obtain ⟨gk0, hgk0⟩ : ∃ gk0, Hid (gk0 = gk) := ⟨_, hide rfl⟩
    have hVs := hon.size
    rcases List.eq_nil_or_concat K with rfl | ⟨K0, ⟨b, z⟩, hle⟩
    · have hl0 : ([] : List (Nat × Int)).length = 0 := rfl
      have hV : ∀ c : Nat, (c : Int) ∈ O ↔ c ∈ V := fun c => ⟨fun h => sk_done hI.out hok.out hSk.out _ c h (Nat.lt_succ_self _), fun h => (hSk.out.vin c h).2⟩
      have hres : Hid (Bld V0 B Bo gB gp gf ge (.string f.name) (.slice A1 f.params.length k1) (.int .i64 f.ret) (.slice A2 n k2) (.slice (some ⟨go, 0, none⟩) N Co) n (stoodA (laidA f.blocks H O n) l O P) es Lp Lf (endsL (laidA f.blocks H O n) l O n)) := hide (by
        obtain ⟨b0, hSt⟩ := hSt.out
        have e1 := std_end hSt (fun c h => (hV c).1 h)
        have e2 := end_end hEn.out hBv.out.e.len hV
        rw [← e1, ← e2]
        exact hBv.out)
      have hbw : Hid (Below B w V0) := hide ((hb1.mono hB).trans (hon.to_below (fun q hq => hq.1) (by omega)))
      go_wp2
      go_end0
      exact ⟨l, es, rfl, hI.out, hres.out, hbw.out⟩
    · rw [List.concat_eq_append] at hle
      subst hle
      obtain ⟨hbn, hbO, hbV, -⟩ := hSk.out.kin b z (by simp)
      have hpop := hide (sk_pop hI.out hok.out hSk.out)
      have hKl := sk_klen hSk.out
      have hfst := hide (on_first hSk.out)
      obtain ⟨m, hm⟩ : ∃ m, Hid (m = K0.length) := ⟨_, hide rfl⟩
      have hlen1 : (K0 ++ [(b, z)]).length = m + 1 := by rw [List.length_append, hm.out]; rfl
      rw [hlen1] at hPr hKl ⊢
      obtain ⟨gs, rfl⟩ : ∃ gs, A = some ⟨gs, 0, none⟩ := by
        obtain ⟨g, cap, hv, -, -⟩ := World.ownsRow.form hPr.out (by rw [hlen1]; omega)
        simp only [Value.slice.injEq] at hv
        exact ⟨g, hv.1⟩
      obtain ⟨r0, r1, hc1, hc2, hP1⟩ := hPr.out.last hm.out
      have hgs := row_lt hP1 (k := gs) rfl
      obtain ⟨hgs1, hgs2, -⟩ := hgs
      obtain ⟨Zx, hZ, hwZ, hZs, hzc⟩ := boxes1 V0 #[.int .i64 (b : Int), .int .i64 z] 97
      have e1 : ((m + 1 : Nat) : Int) > 0 := by omega
      have e2 : ((m + 1 : Nat) : Int) - 1 = (m : Int) := by omega
      have hBz := hide (hBv.out.below hwZ)
      have honZ : Only (fun q => B ≤ q ∧ q < w.heap.size) X1.heap.size X1 Zx := by rw [← hZ]; exact hon.alloc hVs _
      have hx0 : ∀ w', Only (fun q => B ≤ q ∧ q < w.heap.size) Zx.heap.size Zx w' → w'.cell? ⟨V0.heap.size, 0, none⟩ = some (.int .i64 (b : Int)) := Only.fact (hzc 0 _ rfl Zx (Below.refl _ _)) (by omega) (by show ¬ (B ≤ V0.heap.size ∧ V0.heap.size < w.heap.size); omega)
      have hx1 : ∀ w', Only (fun q => B ≤ q ∧ q < w.heap.size) Zx.heap.size Zx w' → w'.cell? ⟨V0.heap.size, 1, none⟩ = some (.int .i64 z) := Only.fact (hzc 1 _ rfl Zx (Below.refl _ _)) (by omega) (by show ¬ (B ≤ V0.heap.size ∧ V0.heap.size < w.heap.size); omega)
      have hPz : Hid (∀ w', Only (fun q => B ≤ q ∧ q < w.heap.size) Zx.heap.size Zx w' → OwnPr w' X1.heap.size (.slice (some ⟨gs, 0, none⟩) m C) K0) := hide (fun w' h => (hP1.far fun q hq => hwZ.block q (row_lt hP1 hq).2.1).far fun q hq => by
        have e9 : gs = q := Option.some.inj hq
        subst e9
        exact h.block gs (by omega) (by show ¬ (B ≤ gs ∧ gs < w.heap.size); omega))
      have hto : Hid (∀ w', Only (fun q => B ≤ q ∧ q < w.heap.size) Zx.heap.size Zx w' → Only (fun q => B ≤ q ∧ q < w.heap.size) X1.heap.size X1 w') := hide (fun w' h => honZ.next (Nat.le_refl _) h)
      have hZX := honZ.size
      have hselfZ : Only (fun q => B ≤ q ∧ q < w.heap.size) Zx.heap.size Zx Zx := Only.refl _ _ _
      replace hZ := hide hZ
      replace hZs := hide hZs
      replace hwZ := hide hwZ
      replace hP1 := hide hP1
      replace honZ := hide honZ
      clear hzc hPr hlen1 hBv hon
      go_upto_region 4 with (fail)
      rw [hZ.out]
      clear hZ r0
      have hpv := hlk.p b hbn
      have hfv := hlk.f b hbn hbO
      obtain ⟨pv, hpe⟩ : ∃ pv : Int, Hid (pv = if (b : Int) ∈ O ∧ H b = true then ((laidA f.blocks H O b).length : Int) else -1) := ⟨_, hide rfl⟩
      rw [← hpe.out] at hpv
      have hfv : Lf[b]? = some ((fstA f.blocks H O b : Nat) : Int) := hfv
      obtain ⟨F, hF⟩ : ∃ F, Hid (F = fstA f.blocks H O b) := ⟨_, hide rfl⟩
      rw [← hF.out] at hfv hfst
      have hFN : F ≤ N := by rw [hF.out, hN.out]; exact Nat.le_trans (fst_le hbO) (off_le (by omega))
      obtain ⟨on0, hon0⟩ : ∃ on0 : Int, Hid (on0 = stF (laidA f.blocks H O n) l O b (lastD (laidA f.blocks H O n) b F)) := ⟨_, hide rfl⟩
      rw [← hon0.out] at hfst
      obtain ⟨-, -, -, -, -, y5, y6, y7⟩ := hBz.out.cells
      have s1 := hBz.out.p.cell hpv
      have s2 := hBz.out.f.cell hfv
      have z0 := hx0 Zx hselfZ
      have z1 := hx1 Zx hselfZ
      have hpt : Hid (H b = true → pv = on0 ∧ pv ≥ 0) := hide (fun h => by
        rw [← hfst.out, if_pos h, hpe.out, if_pos ⟨hbO, h⟩]
        exact ⟨rfl, by omega⟩)
      have hpf : Hid (H b = false → z = on0 ∧ ¬ (pv ≥ 0)) := hide (fun h => by
        rw [← hfst.out, if_neg (by rw [h]; simp), hpe.out, if_neg (fun h' => by rw [h] at h'; exact absurd h'.2 (by simp))]
        exact ⟨rfl, by omega⟩)
      obtain ⟨hb', hhb⟩ : ∃ hb', Hid (H b = hb') := ⟨_, hide rfl⟩
      rw [hhb.out] at hpt hpf
      replace hpv := hide hpv
      replace hfv := hide hfv
      go_upto_region 6 with (fail)
      go_cut [40] (fun s wx => s = .bool hb' ∧ SameW Zx wx)
      case first =>
        cases hb' with
        | true =>
          have h9 := (hpt.out rfl).2
          clear hpt hpf
          go_quiet (fail)
          go_wp2
          go_meet
          exact ⟨by first | rfl | (simp [h9]; done), rfl, rfl, rfl, rfl⟩
        | false =>
          have h9 := (hpf.out rfl).2
          clear hpt hpf
          go_quiet (fail)
          go_wp2
          go_meet
          exact ⟨by first | rfl | (simp; done) | (simp; omega), rfl, rfl, rfl, rfl⟩
      case rest =>
        obtain ⟨rfl, hsw⟩ := hcut
        rename World => Z1
        have ho1 : Only (fun q => B ≤ q ∧ q < w.heap.size) Zx.heap.size Zx Z1 := hsw.only hselfZ
        have hB1 : Hid (Bld Z1 B Bo gB gp gf ge (.string f.name) (.slice A1 f.params.length k1) (.int .i64 f.ret) (.slice A2 n k2) (.slice (some ⟨go, 0, none⟩) N Co) n ls es Lp Lf Le) := hide (hBz.out.of_heap fun q _ _ => by rw [hsw.1])
        clear y5 y6 y7 s1 s2 z0 z1 hBz hsw hselfZ
        obtain ⟨-, -, -, -, -, y5, y6, -⟩ := hB1.out.cells
        have s1 := hB1.out.p.cell hpv.out
        have z0 := hx0 Z1 ho1
        go_upto_if 40 with (fail)
        go_cut [5] (fun s wx => s = .int .i64 on0 ∧ SameW Z1 wx)
        case first =>
          cases hb' with
          | true =>
            obtain ⟨h9, h8⟩ := hpt.out rfl
            clear hpt hpf
            rw [h9] at s1
            go_wp2
            go_quiet (fail)
            go_wp2
            go_meet
            exact ⟨rfl, rfl, rfl, rfl, rfl⟩
          | false =>
            have h9 := (hpf.out rfl).1
            clear hpt hpf
            go_wp2
            go_meet
            exact ⟨by first | rfl | rw [h9], rfl, rfl, rfl, rfl⟩
        case rest =>
          obtain ⟨rfl, hsw⟩ := hcut
          rename World => Z2
          have ho2 : Only (fun q => B ≤ q ∧ q < w.heap.size) Zx.heap.size Zx Z2 := hsw.only ho1
          have hB2 : Hid (Bld Z2 B Bo gB gp gf ge (.string f.name) (.slice A1 f.params.length k1) (.int .i64 f.ret) (.slice A2 n k2) (.slice (some ⟨go, 0, none⟩) N Co) n ls es Lp Lf Le) := hide (hB1.out.of_heap fun q _ _ => by rw [hsw.1])
          clear y5 y6 s1 z0 hB1 hsw ho1 hpt hpf hhb hpv hpe hfst
          obtain ⟨-, -, -, -, -, -, y6, -⟩ := hB2.out.cells
          have s2 := hB2.out.f.cell hfv.out
          have z0 := hx0 Z2 ho2
          go_upto_region 8 with (fail)
          go_cut [6] (fun s wx => s = .int .i64 F ∧ SameW Z2 wx)
          case first =>
            go_quiet (fail)
            go_wp2
            go_meet
            exact ⟨rfl, rfl, rfl, rfl, rfl⟩
          case rest =>
            obtain ⟨rfl, hsw⟩ := hcut
            rename World => Z3
            have ho3 : Only (fun q => B ≤ q ∧ q < w.heap.size) Zx.heap.size Zx Z3 := hsw.only ho2
            have hB3 : Hid (Bld Z3 B Bo gB gp gf ge (.string f.name) (.slice A1 f.params.length k1) (.int .i64 f.ret) (.slice A2 n k2) (.slice (some ⟨go, 0, none⟩) N Co) n ls es Lp Lf Le) := hide (hB2.out.of_heap fun q _ _ => by rw [hsw.1])
            obtain ⟨E, hE⟩ : ∃ E, Hid (E = offA f.blocks H O (b + 1)) := ⟨_, hide rfl⟩
            have hEN : E ≤ N := by rw [hE.out, hN.out]; exact off_le hbn
            have hFE : F ≤ E := by rw [hF.out, hE.out]; exact fst_le hbO
            have hF1 : 0 < F := by rw [hF.out]; unfold fstA; have := off_pos (bs := f.blocks) (H := H) (o := O) (b := b); omega
            have hSt3 : Hid (StdI f.blocks H O l P n V b F ls) := hide (by
              obtain ⟨b0, h⟩ := hSt.out
              rw [hF.out]
              exact std_take h (.inl rfl))
            have honb : Hid (∀ i : Nat, i ≤ N → I64 (stF (laidA f.blocks H O n) l O b (lastD (laidA f.blocks H O n) b i))) := hide (fun i hi => by
              have := stF_bound hI.out hok.out (L := (laidA f.blocks H O n)) (laidA_pos n) hbO (i := i) (by rw [← hN.out]; exact hi)
              have h9 := hN.out
              exact i64_mk (by omega) (by omega))
            have hsegc : Hid (∀ i : Nat, F ≤ i → i < E → ∃ (k : Int) (j : Nat), (laidA f.blocks H O n)[i]? = some ⟨k, b, j, [], []⟩ ∧ (k = 1 ∨ k = 2)) := hide (fun i h1 h2 => seg_code hbn hbO (by rw [← hF.out]; exact h1) (by rw [← hE.out]; exact h2))
            have honz : Hid (∀ i : Nat, i ≤ N → 0 ≤ stF (laidA f.blocks H O n) l O b (lastD (laidA f.blocks H O n) b i)) := hide (fun i hi => (stF_bound hI.out hok.out (L := (laidA f.blocks H O n)) (laidA_pos n) hbO (i := i) (by rw [← hN.out]; exact hi)).1)
            clear y6 s2 z0 hB2 hsw ho2 hfv hSt
            go_wp2
            go_loopg [5, 6] (E - F) (fun g s5 s6 wr => ∃ (i : Nat) (on : Int) (es : List AcV) (ls : List Ac), s5 = .int .i64 on ∧ s6 = .int .i64 i ∧ Hid (on = stF (laidA f.blocks H O n) l O b (lastD (laidA f.blocks H O n) b i)) ∧ F ≤ i ∧ Hid (g + i = E) ∧ Hid (Bld wr B Bo gB gp gf ge (.string f.name) (.slice A1 f.params.length k1) (.int .i64 f.ret) (.slice A2 n k2) (.slice (some ⟨go, 0, none⟩) N Co) n ls es Lp Lf Le) ∧ Hid (StdI f.blocks H O l P n V b i ls) ∧ Only (fun q => B ≤ q ∧ q < w.heap.size) Zx.heap.size Zx wr)
            case atStart => exact ⟨F, on0, es, ls, rfl, rfl, hon0, Nat.le_refl _, hide (by omega), hB3, hSt3, ho3⟩
            case round =>
              clear hB3 hSt3 ho3 hon0
              rename World => V1
              obtain ⟨i, on, es, ls, rfl, rfl, hon1, hFi, hgi, hBv, hSv, hov⟩ := hrel
              have hiE : i ≤ E := by have := hgi.out; omega
              obtain ⟨-, -, -, -, y4, -, -, -⟩ := hBv.out.cells
              have z0 := hx0 V1 hov
              by_cases hlt : i < E
              · obtain ⟨g2, hg2⟩ : ∃ g2, Hid (g2 + (i + 1) = E) := ⟨E - (i + 1), hide (by omega)⟩
                have hgg : Hid (g2 < gk) := hide (by have := hg2.out; have := hgi.out; omega)
                obtain ⟨k, j, hLi, hk12⟩ := hsegc.out i hFi hlt
                have hlsi := std_bare hSv.out hbV hLi (by simp)
                obtain ⟨e, he⟩ := hBv.out.out.at_ hlsi
                obtain ⟨w0, w1, w2, w3, -⟩ := hBv.out.out.cells hlsi he
                have hlti : (i : Int) < (N : Int) := by omega
                have hjj : (j : Int) ≥ 0 := by omega
                replace hLi := hide hLi
                replace hlsi := hide hlsi
                go_upto_region 9 with (fail)
                go_cut [87] (fun s wx => s = .bool true ∧ SameW V1 wx)
                case first =>
                  go_quiet (fail)
                  go_wp2
                  go_meet
                  exact ⟨rfl, rfl, rfl, rfl, rfl⟩
                case rest =>
                  obtain ⟨rfl, hsw⟩ := hcut
                  rename World => V2
                  have ho2 : Only (fun q => B ≤ q ∧ q < w.heap.size) Zx.heap.size Zx V2 := hsw.only hov
                  have hB2 : Hid (Bld V2 B Bo gB gp gf ge (.string f.name) (.slice A1 f.params.length k1) (.int .i64 f.ret) (.slice A2 n k2) (.slice (some ⟨go, 0, none⟩) N Co) n ls es Lp Lf Le) := hide (hBv.out.of_heap fun q _ _ => by rw [hsw.1])
                  clear w0 w1 w2 w3 y4 z0 hBv hov hsw
                  have hB3 := hB2.out.below (bk V2 (.cells #[.int .i64 on] 3))
                  obtain ⟨-, -, -, -, y4, -, -, -⟩ := hB3.cells
                  obtain ⟨w0, w1, w2, w3, -⟩ := hB3.out.cells hlsi.out he
                  have y4' := hB2.out.cells.2.2.2.2.1
                  have fr := hB3.out.frozen (i * 5 + 3)
                  obtain ⟨Ad, Cd, hed⟩ := row_form (hB3.out.inn i _ e hlsi.out he).1.row
                  rw [hed] at w3
                  obtain ⟨es', hB4⟩ := hB2.out.tell (on := on) hlsi.out (by rw [hon1.out]; exact honb.out i (by omega))
                  have ho4 : Only (fun q => B ≤ q ∧ q < w.heap.size) Zx.heap.size Zx ((V2.alloc (.cells #[.int .i64 on] 3)).setCell ⟨go, i * 5 + 3, none⟩ (.slice (some ⟨V2.heap.size, 0, none⟩) 1 1)) := (ho2.alloc ho2.size _).setCell (.inl hgoB) _
                  have hS4 : Hid (StdI f.blocks H O l P n V b (i + 1) (ls.set i ⟨k, b, j, [on], []⟩)) := hide (by
                    have := std_put hSv.out hbV hLi.out hk12 (by simp)
                    unfold accD at this
                    rw [if_pos hk12] at this
                    rw [hon1.out]
                    exact this)
                  replace hB3 := hide hB3
                  replace hB4 := hide hB4
                  replace hed := hide hed
                  have hk9 := hide hk12
                  have v4 := hB4.out.cells.2.2.2.2.1
                  obtain ⟨e9, he9⟩ := hB4.out.out.at_ (List.getElem?_set_self (a := (⟨k, b, j, [on], []⟩ : Ac)) (by have := (List.getElem?_eq_some_iff.1 hlsi.out).1; exact this))
                  have v0 := (hB4.out.out.cells (List.getElem?_set_self (by have := (List.getElem?_eq_some_iff.1 hlsi.out).1; exact this)) he9).1
                  replace he9 := hide he9
                  go_upto_region 12 with (fail)
                  obtain ⟨V3, hV3⟩ : ∃ V3, Hid ((V2.alloc (.cells #[.int .i64 on] 3)).setCell ⟨go, i * 5 + 3, none⟩ (.slice (some ⟨V2.heap.size, 0, none⟩) 1 1) = V3) := ⟨_, hide rfl⟩
                  rw [hV3.out] at hB4 ho4 v4 v0 ⊢
                  clear y4 y4' w0 w1 w2 w3 fr hV3
                  rcases hk12 with hk | hk
                  · subst hk
                    have hon := on_def (l := l) (by omega) hLi.out
                    replace hon := hide hon
                    go_wp2
                    go_roundg g2
                    case measure => exact hgg.out
                    case rel => exact ⟨i + 1, _, es', _, rfl, by go_num, hon, by omega, hg2, hB4, hS4, ho4⟩
                  · subst hk
                    have hon := on_use hLi.out
                    replace hon := hide hon
                    go_wp2
                    go_roundg g2
                    case measure => exact hgg.out
                    case rel => exact ⟨i + 1, on, es', _, rfl, by go_num, hide (by rw [hon1.out, hon.out]), by omega, hg2, hB4, hS4, ho4⟩
              · obtain rfl : i = E := by omega
                have hon := hide (on_end (bs := f.blocks) (H := H) hbn hI.out hok.out hbO)
                rw [← hE.out] at hon
                have hon9 : Hid (on = endF (laidA f.blocks H O n) l O b) := hide (by rw [hon1.out, hon.out])
                have hzI : Hid (I64 on) := hide (by rw [hon1.out]; exact honb.out i hEN)
                clear hon
                go_upto_region 9 with (fail)
                go_cut [87] (fun s wx => s = .bool false ∧ SameW V1 wx)
                case first =>
                  by_cases hiN : i < N
                  · have hiNi : (i : Int) < (N : Int) := by omega
                    obtain ⟨a, ha⟩ := get_ex (l := (laidA f.blocks H O n)) (k := i) (by rw [← hN.out]; exact hiN)
                    obtain ⟨c, hc1, hc2, hc3, hc4, hc5⟩ := seg_of ha.out (by omega)
                    have hcb : c ≠ b := fun e => by
                      rw [e] at hc5
                      have := hE.out
                      omega
                    have hls : ∃ a', ls[i]? = some a' ∧ a'.block = c := by
                      refine ⟨_, hSv.out.at_ i a ha.out, ?_⟩
                      split
                      · unfold accD
                        split
                        · exact hc1
                        · split <;> exact hc1
                      · exact hc1
                    obtain ⟨a', ha1, ha2⟩ := hls
                    obtain ⟨e, he⟩ := hBv.out.out.at_ ha1
                    have w1 := (hBv.out.out.cells ha1 he).2.1
                    rw [ha2] at w1
                    have hne : ((c : Int) == (b : Int)) = false := by rw [beq_eq_false_iff_ne]; omega
                    replace ha1 := hide ha1
                    replace ha2 := hide ha2
                    replace hc1 := hide hc1
                    go_quiet (fail)
                    go_wp2
                    go_meet
                    exact ⟨rfl, rfl, rfl, rfl, rfl⟩
                  · have hiNi : ¬ (i : Int) < (N : Int) := by omega
                    have hiNd : decide ((i : Int) < (N : Int)) = false := decide_eq_false hiNi
                    go_quiet (fail)
                    go_wp2
                    go_meet
                    exact ⟨by first | rfl | (simp; omega), rfl, rfl, rfl, rfl⟩
                case rest =>
                  obtain ⟨rfl, hsw⟩ := hcut
                  rename World => V2
                  have ho2 : Only (fun q => B ≤ q ∧ q < w.heap.size) Zx.heap.size Zx V2 := hsw.only hov
                  have hB2 : Hid (Bld V2 B Bo gB gp gf ge (.string f.name) (.slice A1 f.params.length k1) (.int .i64 f.ret) (.slice A2 n k2) (.slice (some ⟨go, 0, none⟩) N Co) n ls es Lp Lf Le) := hide (hBv.out.of_heap fun q _ _ => by rw [hsw.1])
                  clear y4 z0 hBv hov hsw
                  obtain ⟨-, -, -, -, -, -, -, y7⟩ := hB2.out.cells
                  have z0 := hx0 V2 ho2
                  obtain ⟨u7, hu7⟩ := get_ex (l := Le) (k := b) (by rw [hB2.out.e.len]; exact hbn)
                  have s1 := hB2.out.e.cell hu7.out
                  have f1 := hB2.out.e.free b
                  go_upto_region 14 with (fail)
                  go_cut [] (fun wx => SameW (V2.setCell ⟨ge, b, none⟩ (.int .i64 on)) wx)
                  case first =>
                    go_big_region
                    all_goals go_wp2_with fail
                    all_goals go_meet
                    all_goals exact ⟨rfl, rfl, rfl, rfl⟩
                  case rest =>
                    rename World => V3
                    have ho3 : Only (fun q => B ≤ q ∧ q < w.heap.size) Zx.heap.size Zx V3 := hcut.only (ho2.setCell (.inl ⟨hgw.2.2.2, hgl.2.2.2⟩) _)
                    have hB3 : Hid (Bld V3 B Bo gB gp gf ge (.string f.name) (.slice A1 f.params.length k1) (.int .i64 f.ret) (.slice A2 n k2) (.slice (some ⟨go, 0, none⟩) N Co) n ls es Lp Lf (Le.set b on)) := hide ((hB2.out.setE b _).of_heap fun q _ _ => by rw [hcut.1])
                    have hEn3 : Hid (EndI f.blocks H O l n (V ++ [b]) (Le.set b on)) := hide (by rw [hon9.out]; exact end_put hEn.out hbn hB2.out.e.len)
                    have hSt3 : Hid (∃ b0, StdI f.blocks H O l P n (V ++ [b]) b0 0 ls) := hide ⟨b, std_done (by rw [← hE.out]; exact hSv.out)⟩
                    have hP3 := hide (hPz.out V3 ho3)
                    have hoX := hto.out V3 ho3
                    have z3 := hx0 V3 ho3
                    obtain ⟨At, Ct, ht1, ht2⟩ := hrw.out b _ (treeL_at l hbn)
                    have ht1' := ht1 V3 hoX
                    obtain ⟨row, hrow⟩ : ∃ row, Hid (row = childAt l b n) := ⟨_, hide rfl⟩
                    rw [← hrow.out] at ht1' ht2
                    have hrl : row.length ≤ n := by rw [hrow.out]; exact child_len l b n
                    replace ht1 := hide ht1
                    replace ht2 := hide ht2
                    clear y7 z0 s1 f1 hB2 ho2 hSv hcut honb honz hsegc hEn hPz
                    have hP3' : Hid (OwnPr V3 X1.heap.size (.slice (some ⟨gs, 0, none⟩) K0.length C) K0) := hide (by rw [← hm.out]; exact hP3.out)
                    rw [hm.out]
                    clear hP3
                    go_wp2
                    go_loopg [3, 123] row.length (fun g s3 s123 wr => ∃ (i : Nat) (A : Option Addr) (C : Nat) (K : List (Nat × Int)), s3 = .slice A K.length C ∧ s123 = .int .i64 i ∧ Hid (g + i = row.length) ∧ Hid (SkR (laidA f.blocks H O n) l O n (V ++ [b]) K b i) ∧ Hid (Bld wr B Bo gB gp gf ge (.string f.name) (.slice A1 f.params.length k1) (.int .i64 f.ret) (.slice A2 n k2) (.slice (some ⟨go, 0, none⟩) N Co) n ls es Lp Lf (Le.set b on)) ∧ Hid (OwnPr wr X1.heap.size (.slice A K.length C) K) ∧ Only (fun q => B ≤ q ∧ q < w.heap.size) X1.heap.size X1 wr)
                    case atStart => exact ⟨0, _, C, K0, rfl, rfl, hide rfl, hpop, hB3, hP3', hoX⟩
                    case round =>
                      clear hB3 hpop hP3' hoX ho3 z3 ht1'
                      rename World => V4
                      obtain ⟨i, A, C, K, rfl, rfl, hgi2, hpr, hBv, hPv, hov⟩ := hrel
                      have hir : i ≤ row.length := by have := hgi2.out; omega
                      by_cases hlt : i < row.length
                      · have hlti : (i : Int) < (row.length : Int) := by omega
                        obtain ⟨g2, hg2⟩ : ∃ g2, Hid (g2 + (i + 1) = row.length) := ⟨row.length - (i + 1), hide (by omega)⟩
                        have hgg : Hid (g2 < gk) := hide (by have := hg2.out; have := hgi2.out; omega)
                        obtain ⟨x, hx⟩ := get_ex (l := row) (k := i) hlt
                        have hxc := hx.out
                        rw [hrow.out] at hxc
                        obtain ⟨t, rfl, htn, -⟩ := child_mem.1 (List.mem_of_getElem? hxc)
                        have hpr2 := hide (sk_push hI.out hok.out hpr.out hxc)
                        rw [← hon9.out] at hpr2
                        obtain ⟨g5, hg5, rx⟩ := ht2.out (by omega)
                        subst hg5
                        have rx0 := rx i _ hx.out V4 hov
                        have hKl2 : K.length ≤ n := nd_len hpr.out.knd fun b z h => (hpr.out.kin b z h).1
                        have hVs4 := hov.size
                        have hrow2 : Hid (V4.ownsRow X1.heap.size 97 2 (.slice A K.length C) K.length (K.flatMap prc)) := hPv
                        clear rx hxc
                        go_wp2_with (first
                          | (at_builtin
                             refine wpList_append_own _ rfl (.tmp 127) (.tmp 131) _ rfl X1.heap.size 97 i0 _ 2 16 Try.underlying98 hi0.out hz0.out hz1.out hz2.out rfl (by omega) (.slice A K.length C) _ _ rfl (hrow2.out.alloc _) ⟨V4.heap.size, 0, none⟩ 1 1 [.int .i64 t, .int .i64 on] rfl rfl ?c1 ?c2 ?c3 ?c4 ?c5 ?_
                             case c1 => exact World.news_of_block (cs := #[.int .i64 t, .int .i64 on]) (t := 97) (fr := (0, 0)) (heap_alloc_new V4 _)
                             case c2 => simp [Value.oneCell']
                             case c3 => unfold maxLen; omega
                             case c4 => omega
                             case c5 => first | (simp; omega) | simp | omega
                             intro v1 w1 hown1 hg1 _
                             obtain ⟨A8, C8, hv8⟩ := row_form hown1
                             subst hv8
                             have hPn := hide (OwnPr.snoc (p := (t, on)) hown1)
                             have hBn := hide (hBv.out.but (But.grown hrow2.out hg1) (by decide) (by decide) (by decide))
                             have hon5 := hide ((hov.alloc hVs4 _).grown (by simp; omega) hg1 (fun q hq => .inr (row_lt hrow2.out hq).1))
                             replace hown1 := hide hown1
                             replace hg1 := hide hg1))
                        go_roundg g2
                        case measure => exact hgg.out
                        case rel => exact ⟨i + 1, A8, C8, K ++ [(t, on)], by simp, by go_num, hg2, hpr2, hBn, by simpa using hPn, hon5.out⟩
                      · obtain rfl : i = row.length := by omega
                        have hSn : Hid (SkI (laidA f.blocks H O n) l O n (V ++ [b]) K) := hide (by
                          have h := hpr.out
                          rw [hrow.out] at h
                          exact sk_next h hI.out.len)
                        have hVl := sk_size hSn.out
                        rw [List.length_append, List.length_singleton] at hVl
                        obtain ⟨g', hg'⟩ : ∃ g', Hid (g' + (V ++ [b]).length = n) := ⟨n - (V.length + 1), hide (by rw [List.length_append, List.length_singleton]; omega)⟩
                        have hgg : Hid (g' < gk0) := hide (by have h1 := hg'.out; have h2 := hg.out; have h3 := hgk0.out; rw [List.length_append, List.length_singleton] at h1; omega)
                        have hov' := hide hov
                        go_wp2
                        go_roundg g'
                        case measure => have h1 := hgg.out; have h2 := hgk0.out; clear hgl hgw hgoB; omega
                        case rel => exact ⟨A, C, K, V ++ [b], _, es, ls, rfl, hg', hSn, hBv, hSt3, hEn3, hPv, hov'.out⟩
end Go.Proofs.Yteeclobpajalmaa
