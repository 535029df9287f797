/- latheref02.Copy, walked. No condition but sizes. -/
import Derived.Test.YtaljdbmmjgmbbaaIrZ
namespace Go.Proofs.Ytaljdbmmjgmbbaa
open Go.RowKit
set_option linter.unusedSimpArgs false
set_option linter.unusedVariables false

theorem cinfo_Var : (Try.prog.info? 115).map (fun i => (i.zero, i.size, i.bytes)) = some (some (.agg #[.string ⟨#[]⟩, .int .i64 0]), 2, 24) := by kernel_rfl
theorem cinfo_Extern : (Try.prog.info? 91).map (fun i => (i.zero, i.size, i.bytes)) = some (some (.agg #[.string ⟨#[]⟩, .slice none 0 0, .int .i64 0]), 3, 48) := by kernel_rfl
theorem cinfo_Func : (Try.prog.info? 25).map (fun i => (i.zero, i.size, i.bytes)) = some (some (.agg #[.string ⟨#[]⟩, .slice none 0 0, .int .i64 0, .slice none 0 0]), 4, 72) := by kernel_rfl
theorem vc_len (l : List Vr) : (l.flatMap vc).length = l.length * 2 := by
  induction l with
  | nil => rfl
  | cons x l ih => rw [List.flatMap_cons, List.length_append, ih, List.length_cons]; show 2 + _ = _; omega
theorem vc_get : ∀ (l : List Vr) (m : Nat), (l.flatMap vc)[m]? = (l[m / 2]?).bind fun b => (vc b)[m % 2]?
  | [], m => by simp
  | b :: l, m => by
    have e3 : (vc b).length = 2 := rfl
    rw [List.flatMap_cons]
    rcases Nat.lt_or_ge m 2 with h | h
    · rw [List.getElem?_append_left (by rw [e3]; exact h), Nat.div_eq_of_lt h, Nat.mod_eq_of_lt h]; rfl
    · rw [List.getElem?_append_right (by rw [e3]; exact h), e3, vc_get l (m - 2)]
      obtain ⟨n, rfl⟩ : ∃ n, m = n + 2 := ⟨m - 2, by omega⟩
      rw [show (n + 2) / 2 = n / 2 + 1 by omega, show (n + 2) % 2 = n % 2 by omega, Nat.add_sub_cancel, List.getElem?_cons_succ]
theorem vc_one (p : List Vr) : ∀ v ∈ p.flatMap vc, v.oneCell' = true := by
  intro v hv
  obtain ⟨b, -, hb⟩ := List.mem_flatMap.1 hv
  simp only [vc, List.mem_cons, List.not_mem_nil, or_false] at hb
  rcases hb with rfl | rfl <;> rfl
theorem vars_src {w : World} {v : Value} {l : List Vr} (h : RVrs.rep w w.heap.size [v] l) : ∃ A cap, v = .slice A l.length cap ∧ (A = none → l.length = 0) ∧ (∀ x, x ∈ l → I64 x.size ∧ x.name.size ≤ maxLen) ∧ ∀ W, Below w.heap.size w W → ∀ ad, A = some ad → ∀ j u, (l.flatMap vc)[j]? = some u → W.cell? (ad.add j) = some u := by
  obtain ⟨A, cap, h1, h2, h3⟩ := Rp.slice_open h
  cases h1
  refine ⟨A, cap, rfl, fun e => ?_, fun x hx => ?_, fun W hW ad had j u hu => ?_⟩
  · rcases Nat.eq_zero_or_pos l.length with h | h
    · exact h
    · obtain ⟨b, off, h4, -⟩ := h3 h; rw [e] at h4; cases h4
  · obtain ⟨i, hi⟩ := List.mem_iff_getElem?.1 hx
    obtain ⟨b, off, h4, h5⟩ := h3 (by have := (List.getElem?_eq_some_iff.1 hi).1; omega)
    obtain ⟨es, -, ⟨-, h6⟩, -⟩ := h5 i x hi
    exact h6
  · rw [vc_get] at hu
    cases hz : l[j / 2]? with
    | none => rw [hz] at hu; cases hu
    | some z =>
      rw [hz] at hu
      obtain ⟨b, off, h4, h5⟩ := h3 (by have := (List.getElem?_eq_some_iff.1 hz).1; omega)
      rw [h4] at had
      cases had
      obtain ⟨es, -, ⟨h6, -⟩, h7⟩ := h5 (j / 2) z hz
      subst h6
      rw [show (⟨b, off, none⟩ : Addr).add j = ⟨b, off + j, none⟩ from add_mk b off j, show off + j = off + j / 2 * 2 + j % 2 by omega]
      exact h7 (j % 2) u hu W hW
theorem box3 {w : World} {N : Nat} {a b c : Value} {t : TypeId} (h : w.heap[N]? = some (.cells #[a, b, c] t (0, 0))) : w.cell? ⟨N, 0, none⟩ = some a ∧ w.cell? ⟨N, 1, none⟩ = some b ∧ w.cell? ⟨N, 2, none⟩ = some c := by simp [World.cell?, h]
theorem OwnR.mono {w : World} {B B' : Nat} {v : Value} {l : List Vr} (h : OwnR w B v l) (hb : B' ≤ B) : OwnR w B' v l := ⟨row_mono h.row hb, h.ok⟩
theorem OwnX.mono {w : World} {B B' : Nat} {v : Value} {l : List Ext} (h : OwnX w B v l) (hb : B' ≤ B) : OwnX w B' v l := by
  obtain ⟨ess, h1, h2, h3⟩ := h
  refine ⟨ess, h1, row_mono h2 hb, fun i es x he hx => ?_⟩
  obtain ⟨c, e, h4, h6⟩ := h3 i es x he hx
  exact ⟨c, e, h4.mono hb, h6⟩
theorem OwnF.mono {w : World} {B B' : Nat} {v : Value} {l : List Fun} (h : OwnF w B v l) (hb : B' ≤ B) : OwnF w B' v l := by
  obtain ⟨ess, h1, h2, h3⟩ := h
  refine ⟨ess, h1, row_mono h2 hb, fun i es x he hx => ?_⟩
  obtain ⟨c, d, e, h4, h5, h6⟩ := h3 i es x he hx
  exact ⟨c, d, e, h4.mono hb, h5.mono hb, h6⟩
structure SmallM (m : Mod) : Prop where
  vars : m.vars.length ≤ 2000000
  exts : m.exts.length ≤ 2000000
  funcs : m.funcs.length ≤ 2000000
  ext : ∀ x, x ∈ m.exts → x.params.length ≤ 2000000
  fun_ : ∀ f, f ∈ m.funcs → Small f
def CopyMPost (m : Mod) (w : World) (e : Ending) (w' : World) : Prop := ∃ c d f, e = .returned (m.v c d f) ∧ OwnR w' w.heap.size c m.vars ∧ OwnX w' w.heap.size d m.exts ∧ OwnF w' w.heap.size f m.funcs ∧ Below w.heap.size w w'
set_option maxRecDepth 100000 in
set_option maxHeartbeats 12000000 in
theorem rcopy02_any (m : Mod) (c1 d1 e1 : Value) (w : World) (B : Nat) (hB : B ≤ w.heap.size) (ha : RMod.rep w B [c1, d1, e1] m) (hs : SmallM m) :
    Calls Try.prog 47 #[m.v c1 d1 e1] w (CopyMPost m w) := by
  obtain ⟨hav, hax, haf⟩ := mod_open (RMod.later ha (Below.refl _ _) hB)
  obtain ⟨A1, k1, rfl, hvn, hvo, hvs⟩ := vars_src hav
  obtain ⟨A3, k3, rfl, hl3, gx⟩ := exts_at hax
  obtain ⟨A5, k5, rfl, hl5, gf⟩ := funs_at haf
  clear ha hav hax haf
  obtain ⟨n1, hn1⟩ : ∃ n, Hid (n = m.vars.length) := ⟨_, hide rfl⟩
  obtain ⟨n3, hn3⟩ : ∃ n, Hid (n = m.exts.length) := ⟨_, hide rfl⟩
  obtain ⟨n5, hn5⟩ : ∃ n, Hid (n = m.funcs.length) := ⟨_, hide rfl⟩
  have h18 := hs.vars
  have h38 := hs.exts
  have h58 := hs.funcs
  rw [← hn1.out] at hvn h18 ⊢
  rw [← hn3.out] at hl3 h38 ⊢
  rw [← hn5.out] at hl5 h58 ⊢
  obtain ⟨W, hW, hwW, hWs, hx, -⟩ := boxes2 w #[.slice A1 n1 k1, .slice A3 n3 k3, .slice A5 n5 k5] #[.slice none 0 0, .slice none 0 0, .slice none 0 0] 37 37
  have hR : W.heap[w.heap.size + 1]? = some (.cells #[.slice none 0 0, .slice none 0 0, .slice none 0 0] 37 (0, 0)) := by
    rw [← hW]
    have := box_top (w.alloc (.cells #[.slice A1 n1 k1, .slice A3 n3 k3, .slice A5 n5 k5] 37)) (.cells #[.slice none 0 0, .slice none 0 0, .slice none 0 0] 37)
    simpa using this
  have x0 := hx 0 _ rfl
  have x1 := hx 1 _ rfl
  have x2 := hx 2 _ rfl
  clear hx
  have hws : w.heap.size + 1 < W.heap.size := by omega
  replace hWs := hide hWs
  replace hW := hide hW
  replace hR := hide hR
  obtain ⟨i0, hi0, hz0, hz1, hz2⟩ := cinfo_parts cinfo_int
  obtain ⟨j0, hj0, hj1, hj2, hj3⟩ := cinfo_parts cinfo_Var
  obtain ⟨m0, hm0, hm1, hm2, hm3⟩ := cinfo_parts cinfo_Extern
  obtain ⟨p0, hp0, hp1, hp2, hp3⟩ := cinfo_parts cinfo_Func
  replace hi0 := hide hi0
  replace hz0 := hide hz0
  replace hz1 := hide hz1
  replace hz2 := hide hz2
  replace hj0 := hide hj0
  replace hj1 := hide hj1
  replace hj2 := hide hj2
  replace hj3 := hide hj3
  replace hm0 := hide hm0
  replace hm1 := hide hm1
  replace hm2 := hide hm2
  replace hm3 := hide hm3
  replace hp0 := hide hp0
  replace hp1 := hide hp1
  replace hp2 := hide hp2
  replace hp3 := hide hp3
  replace gx := hide gx
  replace gf := hide gf
  replace hvn := hide hvn
  replace hvo := hide hvo
  replace hvs := hide hvs
  replace hs := hide hs
  have hself := Below.refl W.heap.size W
  go_enter Try.func47, Try.ntmps47
  go_upto_region 1 with (fail)
  rw [hW.out]
  clear hW
  go_upto_region 2 with (fail)
  have hN3 := box_top W (.cells #[.slice none 0 0, .slice none 0 0, .slice none 0 0] 37)
  have hWU := hself.alloc (Nat.le_refl _) (.cells #[.slice none 0 0, .slice none 0 0, .slice none 0 0] 37)
  obtain ⟨U, hU⟩ : ∃ U, U = W.alloc (.cells #[.slice none 0 0, .slice none 0 0, .slice none 0 0] 37) := ⟨_, rfl⟩
  have hUs : U.heap.size = W.heap.size + 1 := by rw [hU]; simp
  rw [← hU] at hN3 hWU ⊢
  clear hU
  obtain ⟨N3, hNe⟩ : ∃ N3, N3 = W.heap.size := ⟨_, rfl⟩
  have hN3w : w.heap.size + 1 < N3 := by rw [hNe]; exact hws
  have hNU : N3 < U.heap.size := by omega
  have y0 : ∀ w', Below N3 U w' → w'.cell? ⟨w.heap.size, 0, none⟩ = some (.slice A1 n1 k1) := fun w' h => x0 w' (by rw [← hNe]; exact (hNe ▸ hWU).trans h)
  have y1 : ∀ w', Below N3 U w' → w'.cell? ⟨w.heap.size, 1, none⟩ = some (.slice A3 n3 k3) := fun w' h => x1 w' (by rw [← hNe]; exact (hNe ▸ hWU).trans h)
  have y2 : ∀ w', Below N3 U w' → w'.cell? ⟨w.heap.size, 2, none⟩ = some (.slice A5 n5 k5) := fun w' h => x2 w' (by rw [← hNe]; exact (hNe ▸ hWU).trans h)
  have hwU : Hid (Below w.heap.size w U) := hide (hwW.trans (hWU.mono (by omega)))
  have hRU : Hid (U.heap[w.heap.size + 1]? = some (.cells #[.slice none 0 0, .slice none 0 0, .slice none 0 0] 37 (0, 0))) := hide ((hWU.block _ hws).trans hR.out)
  rw [← hNe] at hN3 ⊢
  clear x0 x1 x2 hself hWU hwW hR hUs hNe hws hWs
  have hselfU := Below.refl N3 U
  obtain ⟨r0, r1, r2⟩ := box3 hN3
  have fz1 := one_free (j := 0) hN3
  have hown0 : Hid (U.ownsRow U.heap.size 115 2 (.slice none 0 0) 0 []) := hide ⟨rfl, .inl ⟨rfl, rfl⟩⟩
  have hsrc := hide (hvs.out U hwU.out)
  go_upto_region 3 with (at_builtin; refine wpList_append_any _ rfl (.tmp 8) (.tmp 10) _ rfl U.heap.size 115 j0 _ 2 24 Try.underlying33 hj0.out hj1.out hj2.out hj3.out rfl (by omega) (.slice none 0 0) 0 [] rfl hown0.out A1 n1 k1 (m.vars.flatMap vc) rfl (by rw [vc_len, ← hn1.out]) hvn.out hsrc.out (vc_one _) (by unfold maxLen; omega) (by omega) (Nat.le_refl _) ?_; intro v1 Y hownY hgY; rw [Nat.zero_add] at hownY; obtain ⟨Av, Cv, hv1⟩ := row_form hownY; subst hv1; have hbY : Below U.heap.size U Y := (Below.refl _ _).grown hgY (Nat.le_refl _) (fun k hk => by cases hk); have hNY := hide ((hbY.block N3 hNU).trans hN3); have t1 := (box3 hNY.out).1; have ft1 := one_free (j := 0) hNY.out; have hbYN : Below N3 U Y := hbY.mono (by omega); replace hownY := hide hownY; clear hgY)
  have hNV : Hid ((Y.setCell ⟨N3, 0, none⟩ (.slice Av n1 Cv)).heap[N3]? = some (.cells #[.slice Av n1 Cv, .slice none 0 0, .slice none 0 0] 37 (0, 0))) := hide (by simpa using set_heap (j := 0) (v := .slice Av n1 Cv) hNY.out)
  have hOR : Hid (OwnR (Y.setCell ⟨N3, 0, none⟩ (.slice Av n1 Cv)) U.heap.size (.slice Av n1 Cv) m.vars) := hide ⟨row_kept (by rw [← hn1.out]; exact hownY.out) fun k hk => Below.heap_setCell _ _ _ _ (by have := (row_lt hownY.out hk).1; show k ≠ N3; omega), hvo.out⟩
  have hbV := hbYN.setCell (p := ⟨N3, 0, none⟩) (Nat.le_refl _) (.slice Av n1 Cv)
  obtain ⟨V, hV⟩ : ∃ V, V = Y.setCell ⟨N3, 0, none⟩ (.slice Av n1 Cv) := ⟨_, rfl⟩
  have hsV : U.heap.size ≤ V.heap.size := by rw [hV]; simpa [World.setCell] using hbY.size
  rw [← hV] at hNV hOR hbV ⊢
  clear hV hNY t1 ft1 hbYN hownY hbY r0 r1 r2 fz1 hown0 hsrc hselfU hN3
  go_wp2_with fail
  go_loopw [4] (fun u4 wr => ∃ (k : Nat) (u : Value), k ≤ n3 ∧ u4 = .int .i64 k ∧ Hid (wr.heap[N3]? = some (.cells #[.slice Av n1 Cv, u, .slice none 0 0] 37 (0, 0))) ∧ Hid (OwnR wr U.heap.size (.slice Av n1 Cv) m.vars) ∧ Hid (OwnX wr U.heap.size u (m.exts.take k)) ∧ Below N3 U wr ∧ Hid (U.heap.size ≤ wr.heap.size)) (fun u4 _ => n3 - (intOf u4).toNat)
  case atStart => exact ⟨0, _, Nat.zero_le _, rfl, hNV, hOR, hide OwnX.nil_, hbV, hide hsV⟩
  case round =>
    clear hNV hOR hbV hsV
    obtain ⟨k, u, hk, rfl, hNr, hOR, hOX, hbel, hUr⟩ := hrel
    by_cases hlt : k < n3
    · obtain ⟨q1, o1, rfl, he1⟩ := gx.out (by rw [← hn3.out]; omega)
      obtain ⟨x, hx⟩ := get_ex (l := m.exts) (k := k) (by rw [← hn3.out]; exact hlt)
      obtain ⟨ca, hra, hxo, hc⟩ := he1 k x hx.out
      obtain ⟨A6, k6, hca6, -, -⟩ := Rp.slice1_open hra
      cases hca6
      obtain ⟨-, htn, hto, hts⟩ := ints_src hra
      obtain ⟨nt, hnt⟩ : ∃ nt, Hid (nt = x.params.length) := ⟨_, hide rfl⟩
      have hst := hs.out.ext x (List.mem_of_getElem? hx.out)
      obtain ⟨e0, e1, e2⟩ := hc.three
      rw [← hnt.out] at htn hst e1
      have a0 : ∀ w', Below N3 U w' → w'.cell? ⟨q1, o1 + k * 3, none⟩ = some (.string x.name) := fun w' h => e0 w' (hwU.out.trans (h.mono (by omega)))
      have a1 : ∀ w', Below N3 U w' → w'.cell? ⟨q1, o1 + k * 3 + 1, none⟩ = some (.slice A6 nt k6) := fun w' h => e1 w' (hwU.out.trans (h.mono (by omega)))
      have a2 : ∀ w', Below N3 U w' → w'.cell? ⟨q1, o1 + k * 3 + 2, none⟩ = some (.int .i64 x.ret) := fun w' h => e2 w' (hwU.out.trans (h.mono (by omega)))
      clear e0 e1 e2 he1 hc hra
      obtain ⟨Au, Cu, hu⟩ := (show ∃ A C, u = .slice A k C by
        obtain ⟨xs, h1, -⟩ := hOX.out.more
        have := row_form h1
        rw [List.length_take, show min k m.exts.length = k by have := hn3.out; omega] at this
        exact this)
      subst hu
      replace htn := hide htn
      replace hto := hide hto
      replace hts := hide hts
      replace hxo := hide hxo
      go_upto_region 6 with (fail)
      have hNwr : N3 ≤ wr.heap.size := by have := hUr.out; omega
      have hbz := hide ((hbel.alloc hNwr (.cells #[.string ⟨#[]⟩, .slice none 0 0, .int .i64 0] 91)).drew)
      go_region_held3 (fun w' => Below N3 U w') (first | (with_reducible assumption) | exact hbel.drew | exact hbz.out | ((repeat' with_reducible (first | assumption | exact Nat.le_refl _ | refine Below.drew ?_ | refine Below.setCell ?_ ?_ _ | refine Below.alloc ?_ ?_ _)) <;> (first | omega | (simp; omega) | simp)))
        (fail)
      obtain ⟨X1, hX1e⟩ : ∃ X1, X1 = (wr.alloc (.cells #[.string x.name, .slice none 0 0, .int .i64 x.ret] 91)).drew := ⟨_, rfl⟩
      have hB7 : X1.heap[wr.heap.size]? = some (.cells #[.string x.name, .slice none 0 0, .int .i64 x.ret] 91 (0, 0)) := by rw [hX1e]; exact box_top wr _
      have hbX : Below wr.heap.size wr X1 := by rw [hX1e]; exact ((Below.refl _ _).alloc (Nat.le_refl _) _).drew
      have hX1s : X1.heap.size = wr.heap.size + 1 := by rw [hX1e]; simp [World.drew]
      rw [← hX1e]
      obtain ⟨N7, hN7⟩ : ∃ N7, N7 = wr.heap.size := ⟨_, rfl⟩
      have hN7X : N7 < X1.heap.size := by omega
      have h7a : wr.heap.size ≤ N7 := by omega
      have h7b : N7 ≤ wr.heap.size := by omega
      have hXa : wr.heap.size + 1 ≤ X1.heap.size := by omega
      rw [← hN7] at hB7 ⊢
      replace hX1s := hide hX1s
      replace hN7 := hide hN7
      have hbX3 := hbel.trans (hbX.mono hNwr)
      have hwX : Hid (Below w.heap.size w X1) := hide (hwU.out.trans (hbX3.mono (by omega)))
      have b1 := (box3 hB7).2.1
      have hownT : Hid (X1.ownsRow X1.heap.size 3 1 (.slice none 0 0) 0 []) := hide ⟨rfl, .inl ⟨rfl, rfl⟩⟩
      have hsT := hide (hts.out X1 hwX.out)
      have hbXr := hide hbX
      have hbelr := hide hbel
      clear hX1e hbX hbel
      go_upto_region 7 with (fail)
      go_region_law (refine step_append_any (by rfl) (.tmp 34) (.tmp 40) 22 (by rfl) X1.heap.size 3 i0 (.int .i64 0) 1 8 Try.underlying22 hi0.out hz0.out hz1.out hz2.out (by rfl) (by omega) (.slice none 0 0) 0 [] (by rfl) (by exact hownT.out) A6 nt k6 (x.params.map fun z => Value.int .i64 z) (by rfl) (by rw [List.length_map, ← hnt.out]; omega) (fun e => by have := htn.out e; omega) (by exact hsT.out) (ints_one _) (by unfold maxLen; omega) (by omega) (by exact Nat.le_refl _) ?_; intro v8 Y1 hownY hgY; rw [Nat.zero_add] at hownY; obtain ⟨At, Ct, hv8⟩ := row_form hownY; subst hv8; have hbY1 : Below X1.heap.size X1 Y1 := ((Below.refl X1.heap.size X1).drew).grown hgY (Nat.le_refl _) (fun k hk => by cases hk); have hN7Y := hide ((hbY1.block N7 hN7X).trans hB7); have t1 := (box3 hN7Y.out).2.1; have ft1 := one_free (j := 1) hN7Y.out; replace hownY := hide hownY; have hbY1h := hide hbY1; clear hgY hbY1)
      all_goals
        have hB8 : Hid ((Y1.setCell ⟨N7, 1, none⟩ (.slice At nt Ct)).heap[N7]? = some (.cells #[.string x.name, .slice At nt Ct, .int .i64 x.ret] 91 (0, 0))) := hide (by simpa using set_heap (j := 1) (v := .slice At nt Ct) hN7Y.out)
        have hOT : Hid (OwnI (Y1.setCell ⟨N7, 1, none⟩ (.slice At nt Ct)) U.heap.size (.slice At nt Ct) x.params) := hide ((OwnI.mk (by rw [← hnt.out]; exact hownY.out) hto.out : OwnI Y1 X1.heap.size (.slice At nt Ct) x.params).kept (w' := Y1.setCell ⟨N7, 1, none⟩ (.slice At nt Ct)) (fun i hi _ => Below.heap_setCell _ _ _ _ (by show i ≠ N7; omega)) |>.mono (by have := hUr.out; omega))
        have hbr : Below wr.heap.size wr (Y1.setCell ⟨N7, 1, none⟩ (.slice At nt Ct)) := (hbXr.out.trans (hbY1h.out.mono (by omega))).setCell (p := ⟨N7, 1, none⟩) h7a _
        obtain ⟨Y2, hY2⟩ : ∃ Y2, Y2 = Y1.setCell ⟨N7, 1, none⟩ (.slice At nt Ct) := ⟨_, rfl⟩
        rw [← hY2] at hB8 hOT hbr ⊢
        clear hY2 t1 ft1 hN7Y hownY hbY1h b1 hownT hsT hB7 hbX3 a0 a1 a2
        obtain ⟨z0, z1, z2⟩ := box3 hB8.out
        have hNw := hide ((hbr.block N3 (by have := hUr.out; omega)).trans hNr.out)
        have hORw := hide (hOR.out.kept (w' := Y2) fun i _ hi => hbr.block i hi)
        have hOXw := hOX.out.kept (w' := Y2) fun i _ hi => hbr.block i hi
        have t3 := (box3 hNw.out).2.1
        obtain ⟨xs, hown, hmore⟩ := hOXw.more
        rw [List.length_take, show min k m.exts.length = k by have := hn3.out; omega] at hown hmore
        have hbU2 := hbelr.out.trans (hbr.mono hNwr)
        have hsY := hbr.size
        have hUY : U.heap.size ≤ Y2.heap.size := Nat.le_trans hUr.out hsY
        replace hown := hide hown
        replace hmore := hide hmore
        replace hB8 := hide hB8
        clear hOXw hbr
        go_wp2_with (first
          | (at_builtin
             refine wpList_append_own _ rfl (.tmp 44) (.tmp 46) _ rfl U.heap.size 91 m0 _ 3 48 Try.underlying34 hm0.out hm1.out hm2.out hm3.out rfl (by omega) (.slice Au k Cu) _ _ rfl (hown.out.alloc _) ⟨Y2.heap.size, 0, none⟩ 1 1 [.string x.name, .slice At nt Ct, .int .i64 x.ret] rfl rfl ?c1 ?c2 ?c3 ?c4 ?c5 ?_
             case c1 => exact World.news_of_block (cs := #[.string x.name, .slice At nt Ct, .int .i64 x.ret]) (t := 91) (fr := (0, 0)) (heap_alloc_new Y2 _)
             case c2 => simp [Value.oneCell']
             case c3 => unfold maxLen; omega
             case c4 => omega
             case c5 => simp; omega
             intro v6 w6 hown6 hg6 _
             have hX6 := hide (hmore.out x (.slice At nt Ct) w6 v6 hOT.out hxo.out hown6 hg6)
             have hbut := But.grown hown.out hg6
             have hR6 : Hid (OwnR w6 U.heap.size (.slice Av n1 Cv) m.vars) := hide ⟨hbut.row (by decide) hORw.out.row, hORw.out.ok⟩
             have hN6 := hide ((hbut N3 _ _ _ hNw.out (by decide)).trans hNw.out)
             have hb6 : Below N3 U w6 := (hbU2.alloc (by omega) _).grown hg6 (by simp; omega) (fun i hi => by have := (row_lt hown.out hi).1; omega)
             have hs6 : Y2.heap.size ≤ w6.heap.size := by have := hg6.size; simp at this; omega
             obtain ⟨A9, C9, hv6⟩ := row_form hown6
             subst hv6
             have t6 := (box3 hN6.out).2.1
             have f6 := one_free (j := 1) hN6.out
             clear hown6 hg6 hbut))
        have hfar : ∀ i, U.heap.size ≤ i → i ≠ N3 := fun i hi => by omega
        go_roundw
        case rel =>
          refine ⟨k + 1, _, by omega, by go_num, hide (by simpa using set_heap (j := 1) (v := .slice A9 (k + 1) C9) hN6.out), hide (hR6.out.kept fun i hi _ => Below.heap_setCell _ _ _ _ (hfar i hi)), hide ?_, hb6.setCell (p := ⟨N3, 1, none⟩) (Nat.le_refl _) _, hide (by simp [World.setCell]; omega)⟩
          rw [List.take_add_one, hx.out]
          exact hX6.out.kept fun i hi _ => Below.heap_setCell _ _ _ _ (hfar i hi)
        case measure => simp [intOf]; omega
    · obtain rfl : k = n3 := by omega
      rw [List.take_of_length_le (by have := hn3.out; omega)] at hOX
      obtain ⟨AX, CX, hu⟩ := (show ∃ A C, u = .slice A m.exts.length C by
        obtain ⟨xs, h1, -⟩ := hOX.out.more
        exact row_form h1)
      rw [← hn3.out] at hu
      subst hu
      go_wp2_with fail
      go_loopw [6] (fun u6 wr => ∃ (j : Nat) (u : Value), j ≤ n5 ∧ u6 = .int .i64 j ∧ Hid (wr.heap[N3]? = some (.cells #[.slice Av n1 Cv, .slice AX k CX, u] 37 (0, 0))) ∧ Hid (OwnR wr U.heap.size (.slice Av n1 Cv) m.vars) ∧ Hid (OwnX wr U.heap.size (.slice AX k CX) m.exts) ∧ Hid (OwnF wr U.heap.size u (m.funcs.take j)) ∧ Below N3 U wr ∧ Hid (U.heap.size ≤ wr.heap.size)) (fun u6 _ => n5 - (intOf u6).toNat)
      case atStart => exact ⟨0, _, Nat.zero_le _, rfl, hNr, hOR, hOX, hide OwnF.nil_, hbel, hUr⟩
      case round =>
        clear hNr hOR hOX hbel hUr
        obtain ⟨j, u, hj, rfl, hNr, hOR, hOX, hOF, hbel, hUr⟩ := hrel
        by_cases hlt2 : j < n5
        · obtain ⟨q1, o1, rfl, he1⟩ := gf.out (by rw [← hn5.out]; omega)
          obtain ⟨x, hx⟩ := get_ex (l := m.funcs) (k := j) (by rw [← hn5.out]; exact hlt2)
          obtain ⟨ca, ea, hra, hc⟩ := he1 j x hx.out
          have hxo : Hid (I64 x.ret ∧ x.name.size ≤ maxLen) := hide (by obtain ⟨_, _, _, _, _, h5⟩ := hra; exact h5)
          have hsm := hs.out.fun_ x (List.mem_of_getElem? hx.out)
          obtain ⟨e0, e1, e2, e3⟩ := hc.four
          have a0 : ∀ w', Below N3 U w' → w'.cell? ⟨q1, o1 + j * 4, none⟩ = some (.string x.name) := fun w' h => e0 w' (hwU.out.trans (h.mono (by omega)))
          have a1 : ∀ w', Below N3 U w' → w'.cell? ⟨q1, o1 + j * 4 + 1, none⟩ = some ca := fun w' h => e1 w' (hwU.out.trans (h.mono (by omega)))
          have a2 : ∀ w', Below N3 U w' → w'.cell? ⟨q1, o1 + j * 4 + 2, none⟩ = some (.int .i64 x.ret) := fun w' h => e2 w' (hwU.out.trans (h.mono (by omega)))
          have a3 : ∀ w', Below N3 U w' → w'.cell? ⟨q1, o1 + j * 4 + 3, none⟩ = some ea := fun w' h => e3 w' (hwU.out.trans (h.mono (by omega)))
          clear e0 e1 e2 e3 he1 hc
          obtain ⟨xs, hown, hmore⟩ := hOF.out.more
          rw [List.length_take, show min j m.funcs.length = j by have := hn5.out; omega] at hown hmore
          obtain ⟨Au, Cu, hu⟩ := row_form hown
          subst hu
          have t3 := (box3 hNr.out).2.2
          have hNwr : N3 < wr.heap.size := by have := hUr.out; omega
          have hwX := hide (hwU.out.trans (hbel.mono (by omega)))
          have cCp : Hid (∀ W', Below wr.heap.size wr W' → Calls Try.prog 20 #[x.v ca ea] W' (CopyPost x W')) := hide (fun W' h' => by
              have hW' := hwX.out.trans (h'.mono hwX.out.size)
              exact rcopyfunc_any x ca ea W' w.heap.size hW'.size (RFun.below hra hW') hsm)
          have hbelr := hide hbel
          replace hown := hide hown
          replace hmore := hide hmore
          clear hra
          go_upto_region 12 with (fail)
          have hselfr := Below.refl wr.heap.size wr
          have t3f : ∀ w', Below wr.heap.size wr w' → w'.cell? ⟨N3, 2, none⟩ = some (.slice Au j Cu) := fun w' h => (h.cell (p := ⟨N3, 2, none⟩) hNwr).trans t3
          clear t3
          have hUw : U.heap.size ≤ wr.heap.size := hUr.out
          go_region_law (first
            | (go_simp; go_at_call 20; refine (cCp.out _ (by first | with_reducible assumption | exact hselfr.drew)).mono ?_; rintro e w5 ⟨cc, dd, rfl, hI5, hK5, hb5⟩; obtain ⟨Ac, Cc, hcc⟩ := row_form hI5.row; subst hcc; obtain ⟨Ad, Cd, hdd⟩ := (show ∃ A C, dd = .slice A x.blocks.length C by obtain ⟨xs, h1, -⟩ := hK5.more; exact row_form h1); subst hdd; have hb5' : Below wr.heap.size wr w5 := (hselfr.drew).trans hb5; have hI6 : Hid (OwnI w5 wr.heap.size (.slice Ac x.params.length Cc) x.params) := hide hI5; have hK6 : Hid (OwnK w5 wr.heap.size (.slice Ad x.blocks.length Cd) x.blocks) := hide hK5; have hbU5 : Below N3 U w5 := hbelr.out.trans (hb5'.mono (by omega)); have hown5 := hide (row_kept hown.out (w' := w5) fun i hi => hb5'.block i (row_lt hown.out hi).2.1); have hs5 := hb5'.size; have hb5a := hb5'.alloc hs5 (.cells #[.string x.name, .slice Ac x.params.length Cc, .int .i64 x.ret, .slice Ad x.blocks.length Cd] 25); have hN5 := hide ((hb5'.block N3 hNwr).trans hNr.out); clear hI5 hK5 hb5)
            | (refine step_append_any (by rfl) (.tmp 57) (.tmp 64) 35 (by rfl) U.heap.size 25 p0 (.agg #[.string ⟨#[]⟩, .slice none 0 0, .int .i64 0, .slice none 0 0]) 4 72 Try.underlying35 hp0.out hp1.out hp2.out hp3.out (by rfl) (by omega) (.slice Au j Cu) j xs (by rfl) (by exact hown5.out.alloc _) (some ⟨w5.heap.size, 0, none⟩) 1 1 [.string x.name, .slice Ac x.params.length Cc, .int .i64 x.ret, .slice Ad x.blocks.length Cd] (by rfl) (by rfl) (fun e => by cases e) (by intro ad had; cases had; exact World.news_of_block (cs := #[.string x.name, .slice Ac x.params.length Cc, .int .i64 x.ret, .slice Ad x.blocks.length Cd]) (t := 25) (fr := (0, 0)) (heap_alloc_new w5 _)) (by simp [Value.oneCell']) (by unfold maxLen; omega) (by omega) (by simp; omega) ?_; intro v6 w6 hown6 hg6; have hF6 := hide (hmore.out x _ _ w5 w6 v6 hb5' (hI6.out.mono hUw) (hK6.out.mono hUw) hxo.out hown6 hg6); have hbut := But.grown hown5.out hg6; obtain ⟨A9, C9, hv6⟩ := row_form hown6; subst hv6; have hN6 := hide ((hbut N3 _ _ _ hN5.out (by decide)).trans hN5.out); have t6 := (box3 hN6.out).2.2; have f6 := one_free (j := 2) hN6.out; have hb6 : Below N3 U w6 := (hbU5.alloc (by omega) _).grown hg6 (by simp; omega) (fun i hi => by have := (row_lt hown5.out hi).1; omega); have hR6 : Hid (OwnR w6 U.heap.size (.slice Av n1 Cv) m.vars) := hide ⟨hbut.row (by decide) (hOR.out.kept (w' := w5) fun i _ hi => hb5'.block i hi).row, hOR.out.ok⟩; have hX6 := hide (OwnX.but hbut (by decide) (by decide) (hOX.out.kept (w' := w5) fun i _ hi => hb5'.block i hi)); have hs6 : w5.heap.size ≤ w6.heap.size := (by have := hg6.size; simp at this; omega); clear hown6 hg6 hbut))
          all_goals
            have hfar : ∀ i, U.heap.size ≤ i → i ≠ N3 := fun i hi => by omega
            go_wp2
            go_roundw
            case rel =>
              refine ⟨j + 1, _, by omega, by go_num, hide (by simpa using set_heap (j := 2) (v := .slice A9 (j + 1) C9) hN6.out), hide (hR6.out.kept fun i hi _ => Below.heap_setCell _ _ _ _ (hfar i hi)), hide (hX6.out.kept fun i hi _ => Below.heap_setCell _ _ _ _ (hfar i hi)), hide ?_, hb6.setCell (p := ⟨N3, 2, none⟩) (Nat.le_refl _) _, hide (by simp [World.setCell]; omega)⟩
              rw [List.take_add_one, hx.out]
              exact hF6.out.kept fun i hi _ => Below.heap_setCell _ _ _ _ (hfar i hi)
            case measure => simp [intOf]; omega
        · obtain rfl : j = n5 := by omega
          rw [List.take_of_length_le (by have := hn5.out; omega)] at hOF
          obtain ⟨Au, Cu, hu⟩ := (show ∃ A C, u = .slice A m.funcs.length C by
            obtain ⟨xs, h1, -⟩ := hOF.out.more
            exact row_form h1)
          rw [← hn5.out] at hu
          subst hu
          obtain ⟨r0, r1, r2⟩ := box3 hNr.out
          have hRw := hide ((hbel.block (w.heap.size + 1) hN3w).trans hRU.out)
          obtain ⟨s0, s1, s2⟩ := box3 hRw.out
          have g0 := one_free (j := 0) hRw.out
          have g1 := one_free (j := 1) hRw.out
          have g2 := one_free (j := 2) hRw.out
          have hsU := hwU.out.size
          have hfar : ∀ i, U.heap.size ≤ i → i ≠ w.heap.size + 1 := fun i hi => by omega
          have hbel2 := hide hbel
          go_wp2
          have hK9 : ∀ (v0 v1 v2 : Value) (i : Nat), U.heap.size ≤ i → (((wr.setCell ⟨w.heap.size + 1, 0, none⟩ v0).setCell ⟨w.heap.size + 1, 1, none⟩ v1).setCell ⟨w.heap.size + 1, 2, none⟩ v2).heap[i]? = wr.heap[i]? := fun v0 v1 v2 i hi => by
            rw [Below.heap_setCell _ _ _ _ (hfar i hi), Below.heap_setCell _ _ _ _ (hfar i hi), Below.heap_setCell _ _ _ _ (hfar i hi)]
          refine bodyPost_ret (v := m.v (.slice Av n1 Cv) (.slice AX k CX) (.slice Au j Cu)) (by simp [results, Try.results47, go_sem, s0, s1, s2, g0, g1, g2]) rfl ⟨_, _, _, rfl, (hOR.out.kept fun i hi _ => hK9 _ _ _ i hi).mono hsU, (hOX.out.kept fun i hi _ => hK9 _ _ _ i hi).mono hsU, (hOF.out.kept fun i hi _ => hK9 _ _ _ i hi).mono hsU, ?_⟩
          exact (((hwU.out.trans (hbel2.out.mono (by omega))).setCell (p := ⟨w.heap.size + 1, 0, none⟩) (Nat.le_succ _) _).setCell (p := ⟨w.heap.size + 1, 1, none⟩) (Nat.le_succ _) _).setCell (p := ⟨w.heap.size + 1, 2, none⟩) (Nat.le_succ _) _
end Go.Proofs.Ytaljdbmmjgmbbaa
