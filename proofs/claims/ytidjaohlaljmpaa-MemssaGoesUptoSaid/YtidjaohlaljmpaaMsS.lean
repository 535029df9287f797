/- MemssaGoes: gone along any way, what stands at an access is the last phi, Store or Call on it. Condition: the function's bulk is bounded. -/
import Derived.Test.YtidjaohlaljmpaaMsR
import Derived.Test.YtidjaohlaljmpaaMpl
import Derived.Test.YtidjaohlaljmpaaMsO
namespace Go.Proofs.Ytidjaohlaljmpaa
open Go.RowKit Go.Maps
set_option linter.unusedSimpArgs false
set_option linter.unusedVariables false

/-! ### rows of truths -/
def RBo : Rp Bool := .plain (fun b => [.bool b]) fun _ => True
theorem cells_bool9 : Try.prog.cellsOf 4 = 1 := by kernel_rfl
theorem opens_bool : Opens 4 RBo (fun _ => 1) := by
  intro H enc w base spare held fuel cs x h
  obtain ⟨n, rfl, rfl⟩ := DataW.trod_bool Try.underlying4 h
  exact ⟨n, ⟨rfl, trivial⟩, bulk_one _⟩
theorem opens_Bools : Opens 42 (.slice 1 RBo) (fun l => (l.map fun _ => 1).sum + 1) := opens_slice Try.underlying42 cells_bool9 (by omega) opens_bool
/-! ### the maps while they are filled -/
section
variable {w w' : World} {M i : Nat} {L : List Ac} {x : Ac}
theorem MPl.mono {n n' : Nat} {g : Int → Int → Int} (h : MPl w M n g) (hn : n ≤ n') : MPl w M n' g := by
  obtain ⟨D, h, hq⟩ := h
  exact ⟨D, h.mono hn, hq⟩
theorem MIn.mono {n n' : Nat} {g : Int → Int} (h : MIn w M n g) (hn : n ≤ n') : MIn w M n' g := by
  obtain ⟨D, h, hq⟩ := h
  exact ⟨D, h.mono hn, hq⟩
theorem at_skip (h : L[i]? = some x) (hk : x.kind = 3 ∨ i = 0) : atF L (i + 1) = atF L i := by
  rw [atF_step h]
  funext c j
  rw [if_neg (fun hh => by rcases hk with e | e; exact hh.1.1 e; exact absurd hh.1.2 (by omega))]
theorem pt_skip (h : L[i]? = some x) (hk : ¬ x.kind = 3) : ptF L (i + 1) = ptF L i := by
  rw [ptF_step h]
  funext c
  rw [if_neg (fun hh => hk hh.1)]
theorem at_put (h : L[i]? = some x) (hk : ¬ x.kind = 3) (hi : 0 < i) : (fun c j => if c = x.block ∧ j = x.pos then (i : Int) else atF L i c j) = atF L (i + 1) := by
  rw [atF_step h]
  funext c j
  by_cases e : c = x.block ∧ j = x.pos
  · rw [if_pos e, if_pos ⟨⟨hk, hi⟩, e⟩]
  · rw [if_neg e, if_neg (fun hh => e hh.2)]
theorem pt_put (h : L[i]? = some x) (hk : x.kind = 3) : (fun c => if c = x.block then (i : Int) else ptF L i c) = ptF L (i + 1) := by
  rw [ptF_step h]
  funext c
  by_cases e : c = x.block
  · rw [if_pos e, if_pos ⟨hk, e⟩]
  · rw [if_neg e, if_neg (fun hh => e hh.2)]
theorem pos_small {bs : List (List Ins)} {H : Nat → Bool} {o l : List Int} {P : List (List Int)} {n : Nat} (hz : ∀ x, x ∈ bs → x.length ≤ 2000000) {a : Ac} (h : (builtA (laidA bs H o n) l o P)[i]? = some a) : -1 ≤ a.pos ∧ a.pos ≤ 2000000 := by
  have hi := (List.getElem?_eq_some_iff.1 h).1
  rw [built_len] at hi
  have h1 := List.getElem?_eq_getElem hi
  rw [built_at h1] at h
  cases h
  rw [accD_kind.2.2]
  by_cases h0 : i = 0
  · subst h0
    have h2 := laidA_zero (bs := bs) (H := H) (o := o) n
    have e := Option.some.inj (h1.symm.trans h2)
    rw [e]
    exact ⟨Int.le_refl _, by show (-1 : Int) ≤ _; omega⟩
  · obtain ⟨b, -, h2, -⟩ := laidA_mem n h1 (by omega)
    rcases (blkA_mem h2).2 with ⟨-, e⟩ | ⟨j, k, hj, -, e⟩
    · rw [e]
      exact ⟨Int.le_refl _, by show (-1 : Int) ≤ _; omega⟩
    · rw [e]
      show -1 ≤ (j : Int) ∧ (j : Int) ≤ 2000000
      rw [List.getD_eq_getElem?_getD] at hj
      cases hb : bs[b]? with
      | none => rw [hb] at hj; simp at hj
      | some y =>
        rw [hb] at hj
        have := hz y (List.mem_of_getElem? hb)
        have hj2 : j < y.length := hj
        omega
end
section
variable {bs : List (List Ins)} {H : Nat → Bool} {o l : List Int} {P : List (List Int)} {n b : Nat} {x : List Ins}
/-- what stands ahead of instruction i of block b -/
noncomputable def onF (bs : List (List Ins)) (H : Nat → Bool) (o l : List Int) (n b : Nat) (x : List Ins) (i : Nat) : Int := stF (laidA bs H o n) l o b (lastD (laidA bs H o n) b (ixA bs H o b x i))
theorem on_start : onF bs H o l n b x 0 = stF (laidA bs H o n) l o b (lastD (laidA bs H o n) b (fstA bs H o b)) := rfl
theorem on_nop {i : Nat} {s : Ins} (hs : x[i]? = some s) (h1 : ¬ s.op = 27) (h2 : ¬ s.op = 28) (h3 : ¬ s.op = 30) : onF bs H o l n b x (i + 1) = onF bs H o l n b x i := by
  unfold onF
  rw [ix_step hs, accI_zero h1 h2 h3]
  rfl
theorem acc_load {i : Nat} {s : Ins} (h : s.op = 27) : accI b i s = [⟨2, b, i, [], []⟩] := by unfold accI chgB; rw [h]; rfl
theorem acc_store {i : Nat} {s : Ins} (h : s.op = 28 ∨ s.op = 30) : accI b i s = [⟨1, b, i, [], []⟩] := by unfold accI chgB; rcases h with h | h <;> rw [h] <;> rfl
theorem on_load (hb : b < n) (hbo : (b : Int) ∈ o) (hx : bs[b]? = some x) {i : Nat} {s : Ins} (hs : x[i]? = some s) (h : s.op = 27) : onF bs H o l n b x (i + 1) = onF bs H o l n b x i := by
  unfold onF
  rw [ix_step hs, acc_load h]
  show stF _ _ _ _ (lastD _ b (ixA bs H o b x i + 1)) = _
  rw [on_use (ix_at (H := H) hb hbo hx hs (acc_load h))]
theorem on_store (hb : b < n) (hbo : (b : Int) ∈ o) (hx : bs[b]? = some x) {i : Nat} {s : Ins} (hs : x[i]? = some s) (h : s.op = 28 ∨ s.op = 30) : onF bs H o l n b x (i + 1) = (ixA bs H o b x i : Nat) := by
  unfold onF
  rw [ix_step hs, acc_store h]
  exact (on_def ix_pos (ix_at (H := H) hb hbo hx hs (acc_store h))).symm
theorem on_last (hb : b < n) {sc : Int → List Int} (I : IdomOk sc o n l) (O : OrderOk n sc o) (hbo : (b : Int) ∈ o) (hx : bs[b]? = some x) : onF bs H o l n b x x.length = endF (laidA bs H o n) l o b := by
  unfold onF
  rw [ix_end hbo hx]
  exact on_end hb I O hbo
/-- the access that an instruction has -/
theorem on_acc (hb : b < n) (hbo : (b : Int) ∈ o) (hx : bs[b]? = some x) {i : Nat} {s : Ins} (hs : x[i]? = some s) (h : s.op = 27 ∨ s.op = 28 ∨ s.op = 30) {m : Nat} (hm : m = (laidA bs H o n).length) :
    ∃ a, atF (builtA (laidA bs H o n) l o P) m b i = (ixA bs H o b x i : Nat) ∧ (builtA (laidA bs H o n) l o P)[ixA bs H o b x i]? = some a ∧ a.defs = [onF bs H o l n b x i] := by
  rcases h with h | h
  · exact ⟨_, at_yes hb hbo hx hs (acc_load h) (.inr rfl) hm, ix_built hb hbo hx hs (acc_load h) (.inr rfl), rfl⟩
  · exact ⟨_, at_yes hb hbo hx hs (acc_store h) (.inl rfl) hm, ix_built hb hbo hx hs (acc_store h) (.inl rfl), rfl⟩
end
set_option maxRecDepth 100000 in
set_option maxHeartbeats 12800000 in
theorem law_memssa_goes (f : Fun) (tl : List Bool) (c0 c1 c2 : Value) (w : World) (hf : RFun.rep w w.heap.size [.string f.name, c1, .int .i64 f.ret, c2] f) (ht : (Rp.slice 1 RBo).rep w w.heap.size [c0] tl) (hs : Small f) (hsz : funSz f ≤ 2000000) :
    Calls Try.prog 9 #[f.v c1 c2, c0] w (LawPost w) := by
  obtain ⟨A0, k0, h0, hm0, gt⟩ := Rp.slice1_open ht
  cases h0
  obtain ⟨nt, hnt⟩ : ∃ nt, Hid (nt = tl.length) := ⟨_, hide rfl⟩
  rw [← hnt.out] at hm0 ⊢
  replace gt := hide gt
  clear ht
  obtain ⟨hp, hb⟩ := fun_open (RFun.later hf (Below.refl _ _) (Nat.le_refl _))
  obtain ⟨A1, k1, h1, -, -⟩ := Rp.slice1_open hp
  obtain ⟨A2, k2, h2, hm2, -⟩ := Rp.slice1_open hb
  cases h1; cases h2
  clear hp hb
  obtain ⟨-, hb⟩ := fun_open (RFun.later hf (Below.refl _ _) (Nat.le_refl _))
  obtain ⟨A2', k2', h2', -, gb⟩ := Rp.slice1_open hb
  cases h2'
  clear hb
  replace gb := hide gb
  obtain ⟨n, hn⟩ : ∃ n, Hid (n = f.blocks.length) := ⟨_, hide rfl⟩
  have hnle : n ≤ 2000000 := by rw [hn.out]; exact hs.blocks
  obtain ⟨O, hO⟩ : ∃ O, Hid (O = orderF f.blocks) := ⟨_, hide rfl⟩
  obtain ⟨sc, hsc⟩ : ∃ sc, Hid (sc = succsF f.blocks) := ⟨_, hide rfl⟩
  obtain ⟨R, hR⟩ : ∃ R, Hid (R = reachF f.blocks) := ⟨_, hide rfl⟩
  obtain ⟨P, hP⟩ : ∃ P, Hid (P = predsL sc n) := ⟨_, hide rfl⟩
  have hPl : P.length = n := by rw [hP.out, predsL_len]
  have hRl : R.length = n := by rw [hR.out, hn.out, reach_len]
  have hsok : Hid (∀ b, SuccOk n (sc b)) := hide (fun b => by rw [hsc.out, hn.out]; exact succsF_ok _ _)
  have hok : Hid (OrderOk n sc O) := hide (by rw [hO.out, hn.out, hsc.out]; exact order_ok _)
  have hol : O.length ≤ n := by rw [hO.out, hn.out]; exact order_len _
  have hRat : Hid (∀ k : Nat, k < n → R[k]? = some (decide ((k : Int) ∈ O))) := hide (fun k hk => by rw [hR.out, hO.out]; exact reach_at _ _ (by rw [← hn.out]; exact hk))
  rw [← hn.out]
  rw [← hn.out] at hf hm2
  obtain ⟨W, hW, hwW, hWs, hx⟩ := boxes1 w #[.string f.name, .slice A1 f.params.length k1, .int .i64 f.ret, .slice A2 n k2] 25
  have q0 : ∀ w', Below W.heap.size W w' → w'.cell? ⟨w.heap.size, 0, none⟩ = some (.string f.name) := hx 0 _ rfl
  have q1 : ∀ w', Below W.heap.size W w' → w'.cell? ⟨w.heap.size, 1, none⟩ = some (.slice A1 f.params.length k1) := hx 1 _ rfl
  have q2 : ∀ w', Below W.heap.size W w' → w'.cell? ⟨w.heap.size, 2, none⟩ = some (.int .i64 f.ret) := hx 2 _ rfl
  have q3 : ∀ w', Below W.heap.size W w' → w'.cell? ⟨w.heap.size, 3, none⟩ = some (.slice A2 n k2) := hx 3 _ rfl
  clear hx
  have hws : w.heap.size ≤ W.heap.size := by omega
  replace hWs := hide hWs
  have hself := Below.refl W.heap.size W
  have hF : Hid (∀ w', Below W.heap.size W w' → RFun.rep w' w'.heap.size [.string f.name, .slice A1 f.params.length k1, .int .i64 f.ret, .slice A2 n k2] f) := hide (fun w' h => RFun.later hf (hwW.trans (h.mono hws)) (hwW.trans (h.mono hws)).size)
  have cS : Hid (∀ (b : Int) w', Below W.heap.size W w' → Calls Try.prog 27 #[f.v (.slice A1 f.params.length k1) (.slice A2 n k2), .int .i64 b] w' (SuccPost (sc b) w')) := hide (fun (b : Int) w' h => by
    have := succs_any f b (.slice A1 f.params.length k1) (.slice A2 n k2) w' w'.heap.size (Nat.le_refl _) (hF.out w' h) hs
    rwa [← hsc.out] at this)
  obtain ⟨lb, hlb⟩ : ∃ lb, Hid (lb = long19F f) := ⟨_, hide rfl⟩
  have cL : Hid (∀ w', Below W.heap.size W w' → Calls Try.prog 29 #[f.v (.slice A1 f.params.length k1) (.slice A2 n k2)] w' (RetB lb w')) := hide (fun w' h => by
    have := long19_any f (.slice A1 f.params.length k1) (.slice A2 n k2) w' w'.heap.size (Nat.le_refl _) (hF.out w' h) hsz
    rwa [← hlb.out] at this)
  have cB : Hid (∀ w', Below W.heap.size W w' → Calls Try.prog 30 #[f.v (.slice A1 f.params.length k1) (.slice A2 n k2)] w' (MBuildPost f (phF f) O sc P n w')) := hide (fun w' h => by
    have := mbuild_any f (.slice A1 f.params.length k1) (.slice A2 n k2) w' w'.heap.size (Nat.le_refl _) (hF.out w' h) hsz
    rwa [← hO.out, ← hsc.out, ← hn.out, ← hP.out] at this)
  have hphF : Hid (phF f = phH f.blocks sc O) := hide (by rw [hsc.out, hO.out]; rfl)
  have hzb : Hid (∀ x, x ∈ f.blocks → x.length ≤ 2000000) := hide (fun x hx => (hs.code x hx).1)
  replace hs := hide hs
  replace hf := hide hf
  replace hwW := hide hwW
  replace hW := hide hW
  have hmm := @run_makeMap Try.prog
  go_enter Try.func9, Try.ntmps9
  go_upto_region 1 with (fail)
  rw [hW.out]
  go_wp2_with (fail)
  refine (lives19_any _).mono ?_
  rintro e w1 ⟨rfl, hb1⟩
  go_wp2_with (fail)
  refine (cL.out _ hb1).mono ?_
  rintro e w2 ⟨rfl, hb2⟩
  have hbel2 := hb1.trans (hb2.mono hb1.size)
  clear hb1 hb2 cL
  cases lb with
  | true =>
    go_wp2
    go_ret
    exact ⟨rfl, hwW.out.trans (hbel2.mono hws)⟩
  | false =>
    have hs2 := hbel2.size
    have z0 : ∀ w', Below w2.heap.size w2 w' → w'.cell? ⟨w.heap.size, 0, none⟩ = some (.string f.name) := fun w' h => q0 w' (hbel2.trans (h.mono hs2))
    have z1 : ∀ w', Below w2.heap.size w2 w' → w'.cell? ⟨w.heap.size, 1, none⟩ = some (.slice A1 f.params.length k1) := fun w' h => q1 w' (hbel2.trans (h.mono hs2))
    have z2 : ∀ w', Below w2.heap.size w2 w' → w'.cell? ⟨w.heap.size, 2, none⟩ = some (.int .i64 f.ret) := fun w' h => q2 w' (hbel2.trans (h.mono hs2))
    have z3 : ∀ w', Below w2.heap.size w2 w' → w'.cell? ⟨w.heap.size, 3, none⟩ = some (.slice A2 n k2) := fun w' h => q3 w' (hbel2.trans (h.mono hs2))
    have hW2 : Hid (∀ w', Below w2.heap.size w2 w' → Below W.heap.size W w') := hide (fun w' h => hbel2.trans (h.mono hs2))
    have hself2 := Below.refl w2.heap.size w2
    have hfin := hide (hwW.out.trans (hbel2.mono hws))
    clear q0 q1 q2 q3 hself
    by_cases h0 : n = 0
    · have b0 : ((n : Int) == 0) = true := by rw [h0]; rfl
      replace h0 := hide h0
      go_wp2
      go_ret
      exact ⟨rfl, hfin.out⟩
    · have b0 : ((n : Int) == 0) = false := by rw [beq_eq_false_iff_ne]; omega
      have hn0 : 0 < n := by omega
      replace h0 := hide h0
      go_wp2_with (fail)
      refine (cB.out _ (hW2.out _ hself2)).mono ?_
      rintro e X ⟨v, l, es, rfl, hI, hA, hbX2⟩
      rw [if_neg h0.out] at hA
      obtain ⟨L, hL⟩ : ∃ L, Hid (L = builtA (laidA f.blocks (phF f) O n) l O P) := ⟨_, hide rfl⟩
      rw [← hL.out] at hA
      obtain ⟨N, hN⟩ : ∃ N, Hid (N = L.length) := ⟨_, hide rfl⟩
      obtain ⟨Aa, Ca, rfl⟩ := row_form hA.row
      rw [← hN.out] at hA ⊢
      have hbX := hbel2.trans (hbX2.mono hs2)
      have hsX := hbX.size
      have hAX := hide hA
      have hIl := hide (hI hn0)
      have hmeet : Hid (MeetOk O n (endsL (laidA f.blocks (phF f) O n) l O n) (phF f) L) := hide (by rw [hL.out]; exact meet_ok hsz hn.out hn0 hIl.out hok.out hP.out)
      have hNle : N ≤ 4000001 := by rw [hN.out]; exact hmeet.out.len
      have hpos : Hid (∀ (i : Nat) a, L[i]? = some a → -1 ≤ a.pos ∧ a.pos ≤ 2000000) := hide (fun i a h => by rw [hL.out] at h; exact pos_small hzb.out h)
      have hbO : Hid (∀ w', Below X.heap.size X w' → Below w.heap.size w w') := hide (fun w' h => hwW.out.trans ((hbX.trans (h.mono hsX)).mono hws))
      have hbW : Hid (∀ w', Below X.heap.size X w' → Below W.heap.size W w') := hide (fun w' h => hbX.trans (h.mono hsX))
      have p0 : ∀ w', Below X.heap.size X w' → w'.cell? ⟨w.heap.size, 0, none⟩ = some (.string f.name) := fun w' h => z0 w' (hbX2.trans (h.mono hbX2.size))
      have p1 : ∀ w', Below X.heap.size X w' → w'.cell? ⟨w.heap.size, 1, none⟩ = some (.slice A1 f.params.length k1) := fun w' h => z1 w' (hbX2.trans (h.mono hbX2.size))
      have p2 : ∀ w', Below X.heap.size X w' → w'.cell? ⟨w.heap.size, 2, none⟩ = some (.int .i64 f.ret) := fun w' h => z2 w' (hbX2.trans (h.mono hbX2.size))
      have p3 : ∀ w', Below X.heap.size X w' → w'.cell? ⟨w.heap.size, 3, none⟩ = some (.slice A2 n k2) := fun w' h => z3 w' (hbX2.trans (h.mono hbX2.size))
      have hP0 := hide ((MPl.made X).of_heap (w' := (X.alloc (.map #[] 0)).alloc (.map #[] 0)) (Below.heap_alloc _ _ _ (by simp)))
      have hI0 : Hid (MIn ((X.alloc (.map #[] 0)).alloc (.map #[] 0)) (X.heap.size + 1) 0 (fun _ => 0)) := hide (by
        have h := MIn.made (X.alloc (.map #[] 0))
        rwa [show (X.alloc (.map #[] 0)).heap.size = X.heap.size + 1 from by simp] at h)
      have hbY : Below X.heap.size X ((X.alloc (.map #[] 0)).alloc (.map #[] 0)) := ((Below.refl _ _).alloc (Nat.le_refl _) _).alloc (by simp) _
      replace hsz := hide hsz
      replace hs2 := hide hs2
      clear hA hI hfin hbX2 hbel2 z0 z1 z2 z3 hself2 cB hF hW2 hbX hsX
      go_upto_region 8 with (fail)
      obtain ⟨MA, hMA⟩ : ∃ MA, Hid (MA = X.heap.size) := ⟨_, hide rfl⟩
      obtain ⟨MB, hMB⟩ : ∃ MB, Hid (MB = X.heap.size + 1) := ⟨_, hide rfl⟩
      obtain ⟨Y, hY⟩ : ∃ Y, Hid ((X.alloc (.map #[] 0)).alloc (.map #[] 0) = Y) := ⟨_, hide rfl⟩
      rw [hY.out] at hP0 hI0 hbY ⊢
      rw [← hMA.out] at hP0
      rw [← hMB.out] at hI0 ⊢
      rw [← hMA.out]
      clear hY
      go_wp2
      go_loopg [39] N (fun g s wr => ∃ i : Nat, s = .int .i64 i ∧ Hid (g + i = N) ∧ Hid (MPl wr MA i (atF L i)) ∧ Hid (MIn wr MB i (ptF L i)) ∧ Below X.heap.size X wr)
      case atStart => exact ⟨0, rfl, hide rfl, hP0, hI0, hbY⟩
      case round =>
        clear hP0 hI0 hbY
        rename World => V
        obtain ⟨i, rfl, hg, hmp, hmi, hbel⟩ := hrel
        have hi : i ≤ N := by have := hg.out; omega
        have hVs := hbel.size
        by_cases hlti : i < N
        · have hii : (i : Int) < (N : Int) := by omega
          obtain ⟨g', hg'⟩ : ∃ g', Hid (g' + (i + 1) = N) := ⟨N - (i + 1), hide (by omega)⟩
          have hgg : Hid (g' < gk) := hide (by have := hg'.out; have := hg.out; omega)
          obtain ⟨go, hgo⟩ : ∃ go, Aa = some ⟨go, 0, none⟩ := by
            obtain ⟨g, cap, hv, -, -⟩ := hAX.out.row.form (by rw [← hN.out]; omega)
            simp only [Value.slice.injEq] at hv
            exact ⟨g, hv.1⟩
          subst hgo
          obtain ⟨a, ha⟩ := get_ex (l := L) (k := i) (by rw [← hN.out]; exact hlti)
          have hAV := hAX.out.below hbel
          obtain ⟨⟨ed, ef⟩, he⟩ := hAV.at_ ha.out
          obtain ⟨w0, w1, w2, w3, w4⟩ := hAV.cells ha.out he
          obtain ⟨hdI, hfI⟩ := hAV.inn i _ _ ha.out he
          obtain ⟨Ad, Cd, hd⟩ := row_form hdI.row
          obtain ⟨Af, Cf, hff⟩ := row_form hfI.row
          have hd : ed = _ := hd
          have hff : ef = _ := hff
          subst hd
          subst hff
          obtain ⟨Z, hZ, hwZ, hZs, hzc⟩ := boxes1 V #[.int .i64 a.kind, .int .i64 a.block, .int .i64 a.pos, .slice Ad a.defs.length Cd, .slice Af a.orig.length Cf] 57
          have hbelZ : Below X.heap.size X Z := hbel.trans (hwZ.mono hVs)
          have hmpZ := hide (hmp.out.of_heap (hwZ.block _ hmp.out.lt))
          have hmiZ := hide (hmi.out.of_heap (hwZ.block _ hmi.out.lt))
          obtain ⟨hbl1, hbl2⟩ := hmeet.out.block i a ha.out
          obtain ⟨hps1, hps2⟩ := hpos.out i a ha.out
          have y0 := hzc 0 _ rfl Z (Below.refl _ _)
          have y1 := hzc 1 _ rfl Z (Below.refl _ _)
          have y2 := hzc 2 _ rfl Z (Below.refl _ _)
          have hA1 : Hid (X.heap.size ≤ MA) := hide (by rw [hMA.out]; exact Nat.le_refl _)
          have hB1 : Hid (X.heap.size ≤ MB) := hide (by rw [hMB.out]; omega)
          replace hAV := hide hAV
          replace he := hide he
          replace hdI := hide hdI
          replace hfI := hide hfI
          replace hwZ := hide hwZ
          replace hZs := hide hZs
          replace hZ := hide hZ
          clear hzc hbel hVs hmp hmi
          go_upto_region 11 with (fail)
          rw [hZ.out]
          clear hZ w0 w1 w2 w3 w4
          by_cases hk3 : a.kind = 3
          · have b3 : (a.kind == 3) = true := by rw [hk3]; rfl
            obtain ⟨V1, hrun, hm1, hon⟩ := hmiZ.out.store (r := a.block) (x := i) (by unfold maxLen; omega) (i64_mk (by omega) (by omega)) (i64_mk (by omega) (by omega))
            rw [pt_put ha.out hk3] at hm1
            replace hm1 := hide hm1
            have hmp1 : Hid (MPl V1 MA (i + 1) (atF L (i + 1))) := hide (by
              rw [at_skip ha.out (.inl hk3)]
              exact (hmpZ.out.of_heap (hon.block _ hmpZ.out.lt (by have h1 := hMA.out; have h2 := hMB.out; show ¬ MA = MB; omega))).mono (by omega))
            have hbV1 := hide (hbelZ.trans (hon.to_below (fun k hk => by have e : k = MB := hk; have := hB1.out; rw [e]; exact this) hbelZ.size))
            replace hk3 := hide hk3
            clear hon
            go_wp2
            go_roundg g'
            case measure => exact hgg.out
            case rel => exact ⟨i + 1, by go_num, hg', hmp1, hm1, hbV1.out⟩
          · have b3 : (a.kind == 3) = false := by rw [beq_eq_false_iff_ne]; exact hk3
            have hmi1 : Hid (MIn Z MB (i + 1) (ptF L (i + 1))) := hide (by rw [pt_skip ha.out hk3]; exact hmiZ.out.mono (by omega))
            by_cases hi0 : 0 < i
            · have b4 : (i : Int) > 0 := by omega
              obtain ⟨V1, hrun, hm1, hon⟩ := hmpZ.out.store (b := a.block) (i := a.pos) (x := i) (by unfold maxLen; omega) (i64_mk (by omega) (by omega)) (i64_mk (by omega) (by omega)) (i64_mk (by omega) (by omega))
              rw [at_put ha.out hk3 hi0] at hm1
              replace hm1 := hide hm1
              have hmi2 : Hid (MIn V1 MB (i + 1) (ptF L (i + 1))) := hide (hmi1.out.of_heap (hon.block _ hmi1.out.lt (by have h1 := hMA.out; have h2 := hMB.out; show ¬ MB = MA; omega)))
              have hbV1 := hide (hbelZ.trans (hon.to_below (fun k hk => by have e : k = MA := hk; have := hA1.out; rw [e]; exact this) hbelZ.size))
              replace hk3 := hide hk3
              clear hon
              go_wp2
              go_roundg g'
              case measure => exact hgg.out
              case rel => exact ⟨i + 1, by go_num, hg', hm1, hmi2, hbV1.out⟩
            · have b4 : ¬ (i : Int) > 0 := by omega
              have hmp1 : Hid (MPl Z MA (i + 1) (atF L (i + 1))) := hide (by
                rw [at_skip ha.out (.inr (by omega))]
                exact hmpZ.out.mono (by omega))
              replace hk3 := hide hk3
              go_wp2
              go_roundg g'
              case measure => exact hgg.out
              case rel => exact ⟨i + 1, by go_num, hg', hmp1, hmi1, hbelZ⟩
        · obtain rfl : N = i := by omega
          have hfin0 := hide (hbO.out V hbel)
          rename World => U
          have hPU := hide hmp.out
          have hIU := hide hmi.out
          have hXU : Hid (∀ w', Below U.heap.size U w' → Below X.heap.size X w') := hide (fun w' h => hbel.trans (h.mono hVs))
          have hsU := Below.refl U.heap.size U
          have hL2 : Hid (L = builtA (laidA f.blocks (phH f.blocks sc O) O n) l O P) := hide (by rw [hL.out, hphF.out])
          have hNl : Hid (N = (laidA f.blocks (phH f.blocks sc O) O n).length) := hide (by rw [hN.out, hL2.out, built_len])
          have hg0 : Hid (GoI f.blocks sc O l n 0 0 (-1)) := hide ⟨hn0, (ord_ok hok.out hn0).zero, .inl ⟨rfl, rfl, rfl⟩⟩
          clear hmp hmi hbel hVs hg hi hlti
          go_wp2
          go_loopg [10, 11, 12, 13] 60 (fun g s10 s11 s12 s13 wr => ∃ (b : Nat) (on src : Int) (st : Nat), s10 = .int .i64 b ∧ s11 = .int .i64 on ∧ s12 = .int .i64 src ∧ s13 = .int .i64 st ∧ Hid (g + st = 60) ∧ Hid (GoI f.blocks sc O l n b on src) ∧ Below U.heap.size U wr)
          case atStart => exact ⟨0, 0, -1, 0, rfl, rfl, rfl, rfl, hide rfl, hg0, hsU⟩
          case round =>
            clear hg0 hsU
            rename World => V
            obtain ⟨b, on, src, st, rfl, rfl, rfl, rfl, hg, hgo, hbel⟩ := hrel
            have hVs := hbel.size
            have hst9 : st ≤ 60 := by have := hg.out; omega
            have hfinV := hide (hbO.out V (hXU.out V hbel))
            by_cases hlts : st < 60
            · have hii : (st : Int) < 60 := by omega
              have hbn : b < n := hgo.out.1
              obtain ⟨g', hg'⟩ : ∃ g', Hid (g' + (st + 1) = 60) := ⟨60 - (st + 1), hide (by omega)⟩
              have hgg : Hid (g' < gk) := hide (by have := hg'.out; have := hg.out; omega)
              have hbo : Hid ((b : Int) ∈ O) := hide hgo.out.2.1
              have look1 := (hIU.out.of_heap (hbel.block _ hIU.out.lt)).look (r := (b : Int)) (i64_mk (by omega) (by omega))
              obtain ⟨x, hx⟩ := get_ex (l := f.blocks) (k := b) (by rw [← hn.out]; exact hbn)
              obtain ⟨pv, hpv⟩ : ∃ pv, Hid (pv = ptF L N b) := ⟨_, hide rfl⟩
              rw [← hpv.out] at look1
              go_upto_if 69 with (fail)
              clear look1
              go_cut [11] (fun s wx => s = .int .i64 (onF f.blocks (phH f.blocks sc O) O l n b x 0) ∧ Below U.heap.size U wx)
              case first =>
                obtain ⟨go, hgo5⟩ : ∃ go, Hid (0 < N → Aa = some ⟨go, 0, none⟩) := by
                  by_cases hN0 : 0 < N
                  · obtain ⟨g, cap, hv, -, -⟩ := hAX.out.row.form (by rw [← hN.out]; omega)
                    simp only [Value.slice.injEq] at hv
                    exact ⟨g, hide (fun _ => hv.1)⟩
                  · exact ⟨0, hide (fun h => absurd h hN0)⟩
                by_cases hH : phH f.blocks sc O b = true
                · obtain ⟨q, hq⟩ : ∃ q : Nat, Hid (q = offA f.blocks (phH f.blocks sc O) O b) := ⟨_, hide rfl⟩
                  have hpq : pv = (q : Int) := by rw [hpv.out, hL2.out, hq.out]; exact pt_yes hbn hbo.out hH hNl.out
                  subst hpq
                  have hq0 : 0 < q := by rw [hq.out]; exact off_pos
                  have b1 : (q : Int) > 0 := by omega
                  have hend : Hid ((q : Int) = onF f.blocks (phH f.blocks sc O) O l n b x 0) := hide (by rw [hq.out]; exact go_phi hbn hbo.out hH)
                  by_cases hsrc : 0 ≤ src
                  · have b2 : src ≥ 0 := hsrc
                    obtain ⟨a, ha, hak, kf, hkf1, hkf2⟩ : ∃ a, Hid (L[q]? = some a) ∧ Hid (a.kind = 3) ∧ ∃ kf : Nat, Hid (a.orig[kf]? = some src) ∧ Hid (a.defs[kf]? = some on) := by
                      rcases hgo.out.2.2 with ⟨e, -⟩ | ⟨q2, e1, e2, e3, e4, e5⟩
                      · omega
                      · obtain ⟨kf, a, h1, h2, h3⟩ := go_found hP.out hbn hbo.out hH e2 e3 e4 e5
                        rw [← hL2.out, ← hq.out] at h1
                        refine ⟨a, hide h1, hide ?_, kf, hide (by rw [e1]; exact h2), hide h3⟩
                        have h4 := built_at (l := l) (o := O) (P := P) (seg_phi (bs := f.blocks) hbn hbo.out hH)
                        rw [← hL2.out, ← hq.out, h1] at h4
                        rw [Option.some.inj h4, accD_kind.1]
                    have hqN : q < N := by rw [hN.out]; exact (List.getElem?_eq_some_iff.1 ha.out).1
                    have hqNi : (q : Int) < (N : Int) := by omega
                    have eAa := hgo5.out (by omega)
                    subst eAa
                    obtain ⟨-, hol9, -⟩ := hmeet.out.phi q a ha.out hak.out
                    have hdl := hmeet.out.dlen q a ha.out
                    have hAV := hAX.out.below (hXU.out V hbel)
                    obtain ⟨⟨ed, ef⟩, he⟩ := hAV.at_ ha.out
                    obtain ⟨-, -, -, w3, w4⟩ := hAV.cells ha.out he
                    obtain ⟨hdI, hfI⟩ := hAV.inn q _ _ ha.out he
                    obtain ⟨Ad, Cd, hd, rd⟩ := int_reads hdI
                    obtain ⟨Af, Cf, hff, rf⟩ := int_reads hfI
                    have hd : ed = _ := hd
                    have hff : ef = _ := hff
                    subst hd
                    subst hff
                    obtain ⟨m, hm⟩ : ∃ m, Hid (m = a.defs.length) := ⟨_, hide rfl⟩
                    rw [hol9, ← hm.out] at w4 rf
                    rw [← hm.out] at w3 rd hdl
                    have hgV := row_lt hAV.row (k := go) rfl
                    have y3 : ∀ w', Below V.heap.size V w' → w'.cell? ⟨go, q * 5 + 3, none⟩ = some (.slice Ad m Cd) := fun w' h => by
                      rw [h.cell (p := ⟨go, q * 5 + 3, none⟩) hgV.2.1]
                      exact w3
                    have y4 := w4
                    have hfl : Hid (a.orig.length = m) := hide (by rw [hol9, hm.out])
                    have hkm : kf < m := by rw [hm.out]; exact (List.getElem?_eq_some_iff.1 hkf2.out).1
                    have hsV := Below.refl V.heap.size V
                    replace rd := hide rd
                    replace rf := hide rf
                    replace hAV := hide hAV
                    replace he := hide he
                    replace hdI := hide hdI
                    replace hfI := hide hfI
                    replace hH := hide hH
                    replace hol9 := hide hol9
                    replace hgV := hide hgV
                    clear w3 w4
                    go_wp2
                    go_loopg [15, 78] m (fun g s15 s78 wr => ∃ (k : Nat) (fd : Bool), s15 = .bool fd ∧ s78 = .int .i64 k ∧ Hid (g + k = m) ∧ Hid (kf < k → fd = true) ∧ Below V.heap.size V wr)
                    case atStart => exact ⟨0, false, rfl, rfl, hide rfl, hide (fun h => by omega), hsV⟩
                    case round =>
                      clear hsV y4
                      rename World => V1
                      obtain ⟨k, fd, rfl, rfl, hgk, hfd, hbel1⟩ := hrel
                      have hk : k ≤ m := by have := hgk.out; omega
                      by_cases hltk : k < m
                      · have hkk : (k : Int) < (m : Int) := by omega
                        obtain ⟨g2, hg2⟩ : ∃ g2, Hid (g2 + (k + 1) = m) := ⟨m - (k + 1), hide (by omega)⟩
                        have hgg2 : Hid (g2 < gk) := hide (by have := hg2.out; have := hgk.out; omega)
                        obtain ⟨z, hz⟩ := get_ex (l := a.orig) (k := k) (by rw [hfl.out]; exact hltk)
                        obtain ⟨y, hy⟩ := get_ex (l := a.defs) (k := k) (by rw [← hm.out]; exact hltk)
                        obtain ⟨g5, hg5, r5⟩ := rf.out (by omega)
                        obtain ⟨g6, hg6, r6⟩ := rd.out (by omega)
                        subst hg5
                        subst hg6
                        have v5 := r5 k z hz.out V1 hbel1
                        have v6 := r6 k y hy.out V1 hbel1
                        have v3 := y3 V1 hbel1
                        clear r5 r6
                        have hnx : Hid (kf < k + 1 → (fd || (z == src && y == on)) = true) := hide (fun h => by
                          rcases Nat.lt_succ_iff_lt_or_eq.1 h with h1 | h1
                          · rw [hfd.out h1]; rfl
                          · subst h1
                            have e1 := hkf1.out
                            have e2 := hkf2.out
                            rw [hz.out] at e1
                            rw [hy.out] at e2
                            cases e1
                            cases e2
                            simp)
                        cases fd with
                        | true =>
                          go_wp2
                          go_roundg g2
                          case measure => exact hgg2.out
                          case rel => exact ⟨k + 1, true, rfl, by go_num, hg2, hide (fun _ => rfl), hbel1⟩
                        | false =>
                          cases hz1 : (z == src) with
                          | false =>
                            rw [hz1] at hnx
                            go_wp2
                            go_roundg g2
                            case measure => exact hgg2.out
                            case rel => exact ⟨k + 1, false, rfl, by go_num, hg2, hide (fun h => by have := hnx.out h; simp at this), hbel1⟩
                          | true =>
                            rw [hz1] at hnx
                            cases hy1 : (y == on) with
                            | false =>
                              rw [hy1] at hnx
                              go_wp2
                              go_roundg g2
                              case measure => exact hgg2.out
                              case rel => exact ⟨k + 1, false, rfl, by go_num, hg2, hide (fun h => by have := hnx.out h; simp at this), hbel1⟩
                            | true =>
                              go_wp2
                              go_roundg g2
                              case measure => exact hgg2.out
                              case rel => exact ⟨k + 1, true, rfl, by go_num, hg2, hide (fun _ => rfl), hbel1⟩
                      · obtain rfl : m = k := by omega
                        have efd : fd = true := hfd.out hkm
                        subst efd
                        have hb9 := hide (hbel.trans (hbel1.mono hVs))
                        go_wp2
                        go_meet
                        exact ⟨by rw [hend.out], hb9.out⟩
                  · have b2 : ¬ (src ≥ 0) := hsrc
                    replace hH := hide hH
                    go_wp2
                    go_meet
                    exact ⟨by rw [hend.out], hbel⟩
                · have hHf : phH f.blocks sc O b = false := by cases h : phH f.blocks sc O b; rfl; exact absurd h hH
                  have hp0 : pv = 0 := by rw [hpv.out, hL2.out]; exact pt_no hHf N
                  have hon : Hid (on = onF f.blocks (phH f.blocks sc O) O l n b x 0) := hide (go_on hIl.out hok.out hgo.out hHf)
                  subst hp0
                  replace hH := hide hH
                  replace hHf := hide hHf
                  go_wp2
                  go_meet
                  exact ⟨by rw [← hon.out], hbel⟩
              case rest =>
                obtain ⟨rfl, hbelc⟩ := hcut
                clear hbel hVs hfinV
                rename World => V1
                have hVs := hbelc.size
                have hxl : x.length ≤ 2000000 := hzb.out x (List.mem_of_getElem? hx.out)
                obtain ⟨b1, o1, rfl, he1⟩ := gb.out (by rw [← hn.out]; omega)
                obtain ⟨d1, hr1, hd1⟩ := he1 b x hx.out
                obtain ⟨A3, c3, h3, hm3', ga3⟩ := Rp.slice_open hr1
                cases h3
                replace ga3 := hide ga3
                have hd1' := hd1 V1 (hbO.out V1 (hXU.out V1 hbelc))
                have p3V := p3 V1 (hXU.out V1 hbelc)
                have hbi : (b : Int) < (n : Int) := by omega
                clear hd1 hr1 he1
                go_wp2
                go_loopg [11, 122] x.length (fun g s11 s122 wr => ∃ (i : Nat) (on1 : Int), s11 = .int .i64 on1 ∧ s122 = .int .i64 i ∧ Hid (g + i = x.length) ∧ Hid (on1 = onF f.blocks (phH f.blocks sc O) O l n b x i) ∧ Below U.heap.size U wr)
                case atStart => exact ⟨0, _, rfl, rfl, hide rfl, hide rfl, hbelc⟩
                case round =>
                  clear hbelc hd1' p3V hVs
                  rename World => V2
                  obtain ⟨i, on1, rfl, rfl, hgi, hon1, hbel⟩ := hrel
                  have hi : i ≤ x.length := by have := hgi.out; omega
                  have hVs := hbel.size
                  by_cases hlti : i < x.length
                  · have hii : (i : Int) < (x.length : Int) := by omega
                    obtain ⟨g2, hg2⟩ : ∃ g2, Hid (g2 + (i + 1) = x.length) := ⟨x.length - (i + 1), hide (by omega)⟩
                    have hgg2 : Hid (g2 < gk) := hide (by have := hg2.out; have := hgi.out; omega)
                    obtain ⟨b3, o3, rfl, he3⟩ := ga3.out (by omega)
                    obtain ⟨ins, hins⟩ := get_ex (l := x) (k := i) hlti
                    obtain ⟨_, _, ⟨a1, a2, rfl, ha, hto, -, hokr, -⟩, hc⟩ := he3 i ins hins.out
                    obtain ⟨A5, k5, h5, hm5, -⟩ := Rp.slice_open ha
                    obtain ⟨A6, k6, h6, hm6, -⟩ := Rp.slice1_open hto
                    cases h5; cases h6
                    have hbV := hbO.out V2 (hXU.out V2 hbel)
                    obtain ⟨e0, e1, e2, e3, e4, e5, e6⟩ := hc.seven
                    have e0 := e0 V2 hbV
                    have e1 := e1 V2 hbV
                    have e2 := e2 V2 hbV
                    have e3 := e3 V2 hbV
                    have e4 := e4 V2 hbV
                    have e5 := e5 V2 hbV
                    have e6 := e6 V2 hbV
                    clear he3 ha hto hc hokr hbV
                    obtain ⟨Z, hZ, hwZ, hZs, hzc⟩ := boxes1 V2 #[.int .i64 ins.op, .int .i64 ins.reg, .int .i64 ins.ty, .int .i64 ins.num, .int .i64 ins.flags, .slice A5 ins.args.length k5, .slice A6 ins.to.length k6] 67
                    have hbelZ : Below U.heap.size U Z := hbel.trans (hwZ.mono hVs)
                    have y0 := hzc 0 _ rfl Z (Below.refl _ _)
                    have look2 := (hPU.out.of_heap (hbelZ.block _ hPU.out.lt)).look (b := (b : Int)) (i := (i : Int)) (i64_mk (by omega) (by omega)) (i64_mk (by omega) (by omega))
                    obtain ⟨nv, hnv⟩ : ∃ nv, Hid (nv = atF L N b i) := ⟨_, hide rfl⟩
                    rw [← hnv.out] at look2
                    have hfinZ := hide (hbO.out Z (hXU.out Z hbelZ))
                    replace hwZ := hide hwZ
                    replace hZs := hide hZs
                    replace hZ := hide hZ
                    clear hzc hbel hVs
                    go_upto_region 35 with (fail)
                    rw [hZ.out]
                    clear hZ e0 e1 e2 e3 e4 e5 e6
                    by_cases hop : ins.op = 27 ∨ ins.op = 28 ∨ ins.op = 30
                    · obtain ⟨a, hav, ha, had⟩ := on_acc (l := l) (P := P) (H := phH f.blocks sc O) hbn hbo.out hx.out hins.out hop hNl.out
                      rw [← hL2.out, ← hnv.out] at hav
                      rw [← hL2.out] at ha
                      rw [← hon1.out] at had
                      obtain ⟨q, hq⟩ : ∃ q, Hid (q = ixA f.blocks (phH f.blocks sc O) O b x i) := ⟨_, hide rfl⟩
                      rw [← hq.out] at hav ha
                      subst hav
                      have hq0 : 0 < q := by rw [hq.out]; exact ix_pos
                      have hqN : q < N := by rw [hN.out]; exact (List.getElem?_eq_some_iff.1 ha).1
                      have hqNi : (q : Int) < (N : Int) := by omega
                      have b5 : ¬ ((q : Int) ≤ 0) := by omega
                      obtain ⟨go, hgo9⟩ : ∃ go, Aa = some ⟨go, 0, none⟩ := by
                        obtain ⟨g, cap, hv, -, -⟩ := hAX.out.row.form (by rw [← hN.out]; omega)
                        simp only [Value.slice.injEq] at hv
                        exact ⟨g, hv.1⟩
                      subst hgo9
                      have hAZ := hAX.out.below (hXU.out Z hbelZ)
                      obtain ⟨⟨ed, ef⟩, he⟩ := hAZ.at_ ha
                      obtain ⟨-, -, -, w3, -⟩ := hAZ.cells ha he
                      obtain ⟨hdI, -⟩ := hAZ.inn q _ _ ha he
                      obtain ⟨Ad, Cd, hd, rd⟩ := int_reads hdI
                      have hd : ed = _ := hd
                      subst hd
                      have ed1 : a.defs.length = 1 := by rw [had]; rfl
                      rw [ed1] at w3 rd
                      obtain ⟨g6, hg6, r6⟩ := rd (by omega)
                      subst hg6
                      have v6 := r6 0 on1 (by rw [had]; rfl) Z (Below.refl _ _)
                      have n1 : (on1 != on1) = false := by simp
                      have ha := hide ha
                      have had := hide had
                      have he := hide he
                      have hAZ := hide hAZ
                      have hdI := hide hdI
                      clear r6 rd ed1
                      by_cases h27 : ins.op = 27
                      · have g1 : (ins.op == 27) = true := by rw [h27]; rfl
                        have g1' : (ins.op != 27) = false := by rw [h27]; rfl
                        have hon2 : Hid (on1 = onF f.blocks (phH f.blocks sc O) O l n b x (i + 1)) := hide (by rw [on_load hbn hbo.out hx.out hins.out h27, hon1.out])
                        replace h27 := hide h27
                        replace hop := hide hop
                        go_wp2
                        go_roundg g2
                        case measure => exact hgg2.out
                        case rel => exact ⟨i + 1, on1, rfl, by go_num, hg2, hon2, hbelZ⟩
                      · have g1 : (ins.op == 27) = false := by rw [beq_eq_false_iff_ne]; exact h27
                        have g1' : (ins.op != 27) = true := by rw [bne_iff_ne]; exact h27
                        have hop2 : ins.op = 28 ∨ ins.op = 30 := by rcases hop with h | h; exact absurd h h27; exact h
                        have hon2 : Hid ((q : Int) = onF f.blocks (phH f.blocks sc O) O l n b x (i + 1)) := hide (by rw [on_store hbn hbo.out hx.out hins.out hop2, hq.out])
                        replace h27 := hide h27
                        replace hop := hide hop
                        rcases hop2 with h28 | h30
                        · have g2' : (ins.op != 28) = false := by rw [h28]; rfl
                          replace h28 := hide h28
                          go_wp2
                          go_roundg g2
                          case measure => exact hgg2.out
                          case rel => exact ⟨i + 1, _, rfl, by go_num, hg2, hon2, hbelZ⟩
                        · have g2' : (ins.op != 28) = true := by rw [h30]; rfl
                          have g3' : (ins.op != 30) = false := by rw [h30]; rfl
                          replace h30 := hide h30
                          go_wp2
                          go_roundg g2
                          case measure => exact hgg2.out
                          case rel => exact ⟨i + 1, _, rfl, by go_num, hg2, hon2, hbelZ⟩
                    · have h27 : ¬ ins.op = 27 := fun h => hop (.inl h)
                      have h28 : ¬ ins.op = 28 := fun h => hop (.inr (.inl h))
                      have h30 : ¬ ins.op = 30 := fun h => hop (.inr (.inr h))
                      have g1' : (ins.op != 27) = true := by rw [bne_iff_ne]; exact h27
                      have g2' : (ins.op != 28) = true := by rw [bne_iff_ne]; exact h28
                      have g3' : (ins.op != 30) = true := by rw [bne_iff_ne]; exact h30
                      have hon2 : Hid (on1 = onF f.blocks (phH f.blocks sc O) O l n b x (i + 1)) := hide (by rw [on_nop hins.out h27 h28 h30, hon1.out])
                      replace h27 := hide h27
                      replace h28 := hide h28
                      replace h30 := hide h30
                      replace hop := hide hop
                      go_wp2
                      go_roundg g2
                      case measure => exact hgg2.out
                      case rel => exact ⟨i + 1, on1, rfl, by go_num, hg2, hon2, hbelZ⟩
                  · obtain ⟨m, hm⟩ : ∃ m, Hid (m = x.length) := ⟨_, hide rfl⟩
                    have him : i = m := by rw [hm.out]; omega
                    have hend : Hid (on1 = endF (laidA f.blocks (phH f.blocks sc O) O n) l O b) := hide (by rw [hon1.out, him, hm.out]; exact on_last hbn hIl.out hok.out hbo.out hx.out)
                    have hbW2 := hbW.out V2 (hXU.out V2 hbel)
                    have hso := hide (hsok.out (b : Int))
                    have hV2X := hXU.out V2 hbel
                    have r0 := p0 V2 hV2X
                    have r1 := p1 V2 hV2X
                    have r2 := p2 V2 hV2X
                    have r3 := p3 V2 hV2X
                    have hii : ¬ (i : Int) < (x.length : Int) := by omega
                    go_wp2_with (fail)
                    refine (cS.out b V2 hbW2).mono ?_
                    rintro e X3 ⟨v, rfl, hS, hb3⟩
                    obtain ⟨As, Cs, rfl, rs⟩ := int_reads hS
                    obtain ⟨ms, hms⟩ : ∃ ms, Hid (ms = (sc b).length) := ⟨_, hide rfl⟩
                    rw [← hms.out] at rs ⊢
                    have hml : ms ≤ n := by rw [hms.out]; exact succ_len hso.out
                    have hb23 := hbel.trans (hb3.mono hVs)
                    have p3n : ∀ nq, (X3.drewN nq).cell? ⟨w.heap.size, 3, none⟩ = some (.slice (some ⟨b1, o1, none⟩) n k2) := fun nq => p3 _ (hXU.out _ (below_drewN hb23 nq))
                    have hfinX := hide (hbO.out X3 (hXU.out X3 hb23))
                    clear r0 r1 r2 r3 hb3
                    replace hS := hide hS
                    by_cases hm0 : ms = 0
                    · have b7 : ((ms : Int) == 0) = true := by rw [hm0]; rfl
                      replace hm0 := hide hm0
                      go_wp2
                      go_ret
                      exact ⟨rfl, hfinX.out⟩
                    · have b7 : ((ms : Int) == 0) = false := by rw [beq_eq_false_iff_ne]; omega
                      obtain ⟨gs, hgs, rs'⟩ := rs (by omega)
                      subst hgs
                      clear rs
                      by_cases hnt9 : st < nt
                      · have b8 : (st : Int) < (nt : Int) := by omega
                        obtain ⟨bt, ot, rfl, gt'⟩ := gt.out (by rw [← hnt.out]; omega)
                        obtain ⟨tb, htb9⟩ := get_ex (l := tl) (k := st) (by rw [← hnt.out]; exact hnt9)
                        obtain ⟨c, ⟨hc, -⟩, hcell⟩ := gt' st tb htb9.out
                        cases hc
                        have v9 := hcell X3 hfinX.out
                        clear gt' hcell
                        cases tb with
                        | false =>
                          go_upto_region 48 with (fail)
                          obtain ⟨t, ht⟩ := get_ex (l := sc b) (k := 0) (by rw [← hms.out]; omega)
                          have v8 := rs' 0 t ht.out X3 (Below.refl _ _)
                          have htb := hso.out.bound t (List.mem_of_getElem? ht.out)
                          obtain ⟨tn, rfl⟩ := Int.eq_ofNat_of_zero_le htb.1
                          have htn : tn < n := by omega
                          have hgn : Hid (GoI f.blocks sc O l n tn on1 b) := hide (by rw [hend.out]; exact go_next hok.out hgo.out (List.mem_of_getElem? ht.out))
                          have kk : ((0 : Nat) : Int) < (ms : Int) := by omega
                          have c1 : ¬ ((tn : Int) < 0) := by omega
                          have c2 : ¬ ((tn : Int) ≥ (n : Int)) := by omega
                          have c3 : decide ((tn : Int) < 0) = false := decide_eq_false (by omega)
                          have c4 : decide ((n : Int) ≤ (tn : Int)) = false := decide_eq_false (by omega)
                          clear rs'
                          go_quiet (fail)
                          go_wp2
                          go_roundg g'
                          case measure => exact hgg.out
                          case rel => exact ⟨tn, on1, b, st + 1, rfl, rfl, rfl, by go_num, hg', hgn, below_drewN hb23 _⟩
                        | true =>
                          obtain ⟨mp, hmp⟩ : ∃ mp, Hid (mp + 1 = ms) := ⟨ms - 1, hide (by omega)⟩
                          have c9 : (ms : Int) - 1 = (mp : Int) := by have := hmp.out; omega
                          have hmp2 : mp < ms := by have := hmp.out; omega
                          go_upto_region 48 with (fail)
                          obtain ⟨t, ht⟩ := get_ex (l := sc b) (k := mp) (by rw [← hms.out]; omega)
                          have v8 := rs' mp t ht.out X3 (Below.refl _ _)
                          have htb := hso.out.bound t (List.mem_of_getElem? ht.out)
                          obtain ⟨tn, rfl⟩ := Int.eq_ofNat_of_zero_le htb.1
                          have htn : tn < n := by omega
                          have hgn : Hid (GoI f.blocks sc O l n tn on1 b) := hide (by rw [hend.out]; exact go_next hok.out hgo.out (List.mem_of_getElem? ht.out))
                          have kk : ((mp : Nat) : Int) < (ms : Int) := by omega
                          have c1 : ¬ ((tn : Int) < 0) := by omega
                          have c2 : ¬ ((tn : Int) ≥ (n : Int)) := by omega
                          have c3 : decide ((tn : Int) < 0) = false := decide_eq_false (by omega)
                          have c4 : decide ((n : Int) ≤ (tn : Int)) = false := decide_eq_false (by omega)
                          clear rs'
                          go_quiet (fail)
                          go_wp2
                          go_roundg g'
                          case measure => exact hgg.out
                          case rel => exact ⟨tn, on1, b, st + 1, rfl, rfl, rfl, by go_num, hg', hgn, below_drewN hb23 _⟩
                      · have b8 : ¬ (st : Int) < (nt : Int) := by omega
                        go_upto_region 48 with (fail)
                        obtain ⟨t, ht⟩ := get_ex (l := sc b) (k := 0) (by rw [← hms.out]; omega)
                        have v8 := rs' 0 t ht.out X3 (Below.refl _ _)
                        have htb := hso.out.bound t (List.mem_of_getElem? ht.out)
                        obtain ⟨tn, rfl⟩ := Int.eq_ofNat_of_zero_le htb.1
                        have htn : tn < n := by omega
                        have hgn : Hid (GoI f.blocks sc O l n tn on1 b) := hide (by rw [hend.out]; exact go_next hok.out hgo.out (List.mem_of_getElem? ht.out))
                        have kk : ((0 : Nat) : Int) < (ms : Int) := by omega
                        have c1 : ¬ ((tn : Int) < 0) := by omega
                        have c2 : ¬ ((tn : Int) ≥ (n : Int)) := by omega
                        have c3 : decide ((tn : Int) < 0) = false := decide_eq_false (by omega)
                        have c4 : decide ((n : Int) ≤ (tn : Int)) = false := decide_eq_false (by omega)
                        clear rs'
                        go_quiet (fail)
                        go_wp2
                        go_roundg g'
                        case measure => exact hgg.out
                        case rel => exact ⟨tn, on1, b, st + 1, rfl, rfl, rfl, by go_num, hg', hgn, below_drewN hb23 _⟩
            · obtain rfl : st = 60 := by omega
              go_wp2
              go_ret
              exact ⟨rfl, hfinV.out⟩
end Go.Proofs.Ytidjaohlaljmpaa
