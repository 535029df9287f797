/- MemssaBuilds: the accesses of any function, what each stands on, and what stands at the end of each block, are as the document says, in new memory. Condition: the function's bulk is bounded. | MemssaBuilds: the accesses of any function, what each stands on, and what stands at the end of each block, are as the document says, in new memory. Condition: the function's bulk is bounded. -/
import Derived.Test.YteeclobpajalmaaMsX
import Derived.Test.YteeclobpajalmaaMsN
import Derived.Test.YteeclobpajalmaaIrY
import Derived.Test.YteeclobpajalmaaIrCb
namespace Go.Proofs.Yteeclobpajalmaa
open Go.RowKit
set_option linter.unusedSimpArgs false
set_option linter.unusedVariables false

set_option maxRecDepth 100000 in
set_option maxHeartbeats 12800000 in
theorem accs_same (w : World) (B1 B2 Bi1 Bi2 : Nat) (v1 v2 : Value) (ls : List Ac) (es1 es2 : List AcV) (hl : ls.length ≤ 4000001) (h1 : OwnAc w B1 Bi1 v1 ls es1) (h2 : OwnAc w B2 Bi2 v2 ls es2) :
    Calls Try.prog 13 #[v1, v2] w (RetB true w) := by
  obtain ⟨A1, C1, rfl⟩ := row_form h1.row
  obtain ⟨A2, C2, rfl⟩ := row_form h2.row
  obtain ⟨N, hN⟩ : ∃ N, Hid (N = ls.length) := ⟨_, hide rfl⟩
  rw [← hN.out] at hl h1 h2 ⊢
  have hne : ((N : Int) != (N : Int)) = false := by simp
  have hself := Below.refl w.heap.size w
  have h1 := hide h1
  have h2 := hide h2
  go_enter Try.func13, Try.ntmps13
  go_wp2
  go_loopw [13] (fun s wr => ∃ i : Nat, s = .int .i64 i ∧ i ≤ N ∧ Below w.heap.size w wr) (fun s _ => N - (intOf s).toNat)
  case atStart => exact ⟨0, rfl, Nat.zero_le _, hself⟩
  case round =>
    clear hself
    rename World => V
    obtain ⟨i, rfl, hi, hbel⟩ := hrel
    have hVs := hbel.size
    by_cases hlt : i < N
    · have hii : (i : Int) < (N : Int) := by omega
      obtain ⟨a, ha⟩ := get_ex (l := ls) (k := i) (by rw [← hN.out]; exact hlt)
      obtain ⟨g1, hg1⟩ : ∃ g, A1 = some ⟨g, 0, none⟩ := by
        have hr := h1.out.row
        rw [← hN.out] at hr
        obtain ⟨g, cap, hv, -, -⟩ := hr.form (by omega)
        simp only [Value.slice.injEq] at hv
        exact ⟨g, hv.1⟩
      obtain ⟨g2, hg2⟩ : ∃ g, A2 = some ⟨g, 0, none⟩ := by
        have hr := h2.out.row
        rw [← hN.out] at hr
        obtain ⟨g, cap, hv, -, -⟩ := hr.form (by omega)
        simp only [Value.slice.injEq] at hv
        exact ⟨g, hv.1⟩
      subst hg1 hg2
      obtain ⟨⟨d1, f1⟩, he1⟩ := h1.out.at_ ha.out
      obtain ⟨⟨d2, f2⟩, he2⟩ := h2.out.at_ ha.out
      obtain ⟨hd1, hf1⟩ := h1.out.inn i _ _ ha.out he1
      obtain ⟨hd2, hf2⟩ := h2.out.inn i _ _ ha.out he2
      have hd1 : OwnI w Bi1 d1 a.defs := hd1
      have hf1 : OwnI w Bi1 f1 a.orig := hf1
      have hd2 : OwnI w Bi2 d2 a.defs := hd2
      have hf2 : OwnI w Bi2 f2 a.orig := hf2
      obtain ⟨Ad1, Cd1, rfl⟩ := row_form hd1.row
      obtain ⟨Af1, Cf1, rfl⟩ := row_form hf1.row
      obtain ⟨Ad2, Cd2, rfl⟩ := row_form hd2.row
      obtain ⟨Af2, Cf2, rfl⟩ := row_form hf2.row
      obtain ⟨nd, hnd⟩ : ∃ nd, Hid (a.defs.length = nd) := ⟨_, hide rfl⟩
      obtain ⟨nf, hnf⟩ : ∃ nf, Hid (a.orig.length = nf) := ⟨_, hide rfl⟩
      rw [hnd.out] at hd1 hd2 he1 he2
      rw [hnf.out] at hf1 hf2 he1 he2
      have R1 := fun w' (h : Below w.heap.size w w') => (h1.out.below h).cells ha.out he1
      have R2 := fun w' (h : Below w.heap.size w w') => (h2.out.below h).cells ha.out he2
      have a0 : ∀ w', Below w.heap.size w w' → w'.cell? ⟨g1, i * 5, none⟩ = some (.int .i64 a.kind) := fun w' h => (R1 w' h).1
      have a1 : ∀ w', Below w.heap.size w w' → w'.cell? ⟨g1, i * 5 + 1, none⟩ = some (.int .i64 a.block) := fun w' h => (R1 w' h).2.1
      have a2 : ∀ w', Below w.heap.size w w' → w'.cell? ⟨g1, i * 5 + 2, none⟩ = some (.int .i64 a.pos) := fun w' h => (R1 w' h).2.2.1
      have a3 : ∀ w', Below w.heap.size w w' → w'.cell? ⟨g1, i * 5 + 3, none⟩ = some (.slice Ad1 nd Cd1) := fun w' h => (R1 w' h).2.2.2.1
      have a4 : ∀ w', Below w.heap.size w w' → w'.cell? ⟨g1, i * 5 + 4, none⟩ = some (.slice Af1 nf Cf1) := fun w' h => (R1 w' h).2.2.2.2
      have b0 : ∀ w', Below w.heap.size w w' → w'.cell? ⟨g2, i * 5, none⟩ = some (.int .i64 a.kind) := fun w' h => (R2 w' h).1
      have b1 : ∀ w', Below w.heap.size w w' → w'.cell? ⟨g2, i * 5 + 1, none⟩ = some (.int .i64 a.block) := fun w' h => (R2 w' h).2.1
      have b2 : ∀ w', Below w.heap.size w w' → w'.cell? ⟨g2, i * 5 + 2, none⟩ = some (.int .i64 a.pos) := fun w' h => (R2 w' h).2.2.1
      have b3 : ∀ w', Below w.heap.size w w' → w'.cell? ⟨g2, i * 5 + 3, none⟩ = some (.slice Ad2 nd Cd2) := fun w' h => (R2 w' h).2.2.2.1
      have b4 : ∀ w', Below w.heap.size w w' → w'.cell? ⟨g2, i * 5 + 4, none⟩ = some (.slice Af2 nf Cf2) := fun w' h => (R2 w' h).2.2.2.2
      have n0 : (a.kind != a.kind) = false := by simp
      have n1 : (a.block != a.block) = false := by simp
      have n2 : (a.pos != a.pos) = false := by simp
      have cD : Hid (∀ w', Below w.heap.size w w' → Calls Try.prog 14 #[.slice Ad1 nd Cd1, .slice Ad2 nd Cd2] w' (RetB true w')) := hide (fun w' h => ints_same (hd1.below h) (hd2.below h))
      have cF : Hid (∀ w', Below w.heap.size w w' → Calls Try.prog 14 #[.slice Af1 nf Cf1, .slice Af2 nf Cf2] w' (RetB true w')) := hide (fun w' h => ints_same (hf1.below h) (hf2.below h))
      replace he1 := hide he1
      replace he2 := hide he2
      replace hd1 := hide hd1
      replace hd2 := hide hd2
      replace hf1 := hide hf1
      replace hf2 := hide hf2
      clear R1 R2
      go_upto_region 5 with (fail)
      go_upto_region 6 with (fail)
      simp only [List.append]
      refine region_below (by kernel_rfl) (by kernel_rfl) hbel ?_
      repeat (first
        | go_big_quiet_skip
        | (go_big_quiet_want; go_big_quiet_op; go_big_quiet_on)
        | (go_big_quiet_want
           apply Exists.intro
           refine ⟨fun w9 hw9 => ?_, ?_⟩
           · go_simp
             first
               | with_reducible exact ret_classb (cD.out _ hw9) hw9
               | with_reducible exact ret_classb (cF.out _ hw9) hw9
               | rfl
           go_simp
           go_big_quiet_on))
      refine wpQuiet_nil ?_
      intro w9 hw9
      go_wp2
      go_roundw
      case rel => exact ⟨i + 1, by go_num, hlt, hw9⟩
      case measure => simp [intOf]; omega
    · obtain rfl : i = N := by omega
      go_wp2
      go_ret
      exact ⟨rfl, hbel⟩
end Go.Proofs.Yteeclobpajalmaa

namespace Go.Proofs.Yteeclobpajalmaa
open Go.RowKit
set_option linter.unusedSimpArgs false
set_option linter.unusedVariables false

def IdomUp (f : Fun) (l : List Int) : Prop := 0 < f.blocks.length → IdomOk (succsF f.blocks) (orderF f.blocks) f.blocks.length l
noncomputable def upL (f : Fun) : List Int := idomL (fun a b => domB (succsF f.blocks) (orderF f.blocks) a b) f.blocks.length
noncomputable def accF (f : Fun) : List Ac := if f.blocks.length = 0 then [] else builtA (laidA f.blocks (phF f) (orderF f.blocks) f.blocks.length) (upL f) (orderF f.blocks) (predsL (succsF f.blocks) f.blocks.length)
noncomputable def endsF (f : Fun) : List Int := endsL (laidA f.blocks (phF f) (orderF f.blocks) f.blocks.length) (upL f) (orderF f.blocks) f.blocks.length
theorem accF_len {f : Fun} (hsz : funSz f ≤ 2000000) : (accF f).length ≤ 4000001 := by
  unfold accF
  split
  · simp
  · unfold builtA
    rw [List.length_mapIdx]
    exact laidA_small hsz (Nat.le_refl _)
theorem endsL_zero {L : List Ac} {l o : List Int} : endsL L l o 0 = [] := rfl
theorem endsF_i64 {f : Fun} (hsz : funSz f ≤ 2000000) (hI : IdomUp f (upL f)) : ∀ x, x ∈ endsF f → I64 x := fun x hx => by
  unfold endsF endsL at hx
  obtain ⟨b, hb, rfl⟩ := List.mem_map.1 hx
  rw [List.mem_range] at hb
  have hL := laidA_small hsz (H := phF f) (o := orderF f.blocks) (Nat.le_refl _)
  split
  · rename_i h
    have := endF_bound (hI (by omega)) (order_ok _) (laidA_pos (bs := f.blocks) (H := phF f) (o := orderF f.blocks) f.blocks.length) h
    exact i64_mk (by omega) (by omega)
  · exact i64_mk (by omega) (by omega)
def AccPost (AA : List Ac) (D : Prop) (w : World) (e : Ending) (w' : World) : Prop := ∃ v es, e = .returned v ∧ D ∧ OwnAc w' w.heap.size w.heap.size v AA es ∧ Below w.heap.size w w'
def EndPost (EE : List Int) (w : World) (e : Ending) (w' : World) : Prop := ∃ v, e = .returned v ∧ OwnI w' w.heap.size v EE ∧ Below w.heap.size w w'
theorem mbuild_acc (f : Fun) (c1 c2 : Value) (w : World) (B : Nat) (hB : B ≤ w.heap.size) (hf : RFun.rep w B [.string f.name, c1, .int .i64 f.ret, c2] f) (hsz : funSz f ≤ 2000000) :
    Calls Try.prog 11 #[f.v c1 c2] w (AccPost (accF f) (IdomUp f (upL f)) w) := (mbuild_any f c1 c2 w B hB hf hsz).mono (by
  rintro e w' ⟨v, l, es, rfl, hI, hO, hb⟩
  have he : 0 < f.blocks.length → l = upL f := fun h => (hI h).eq (order_ok _) (dom_tab _ _ _)
  refine ⟨v, es, rfl, fun h => by rw [← he h]; exact hI h, ?_, hb⟩
  unfold accF
  by_cases h0 : f.blocks.length = 0
  · rw [if_pos h0] at hO ⊢; exact hO
  · rw [if_neg h0] at hO ⊢; rw [← he (by omega)]; exact hO)
theorem rbuild_acc (f : Fun) (c1 c2 : Value) (w : World) (B : Nat) (hB : B ≤ w.heap.size) (hf : RFun.rep w B [.string f.name, c1, .int .i64 f.ret, c2] f) (hsz : funSz f ≤ 2000000) (hI : IdomUp f (upL f)) :
    Calls Try.prog 12 #[f.v c1 c2] w (AccPost (accF f) True w) := (rbuild_any f c1 c2 w B hB hf hsz (upL f) rfl hI).mono (by
  rintro e w' ⟨v, es, rfl, hO, hb⟩
  exact ⟨v, es, rfl, trivial, hO, hb⟩)
theorem mends_end (f : Fun) (c1 c2 : Value) (w : World) (B : Nat) (hB : B ≤ w.heap.size) (hf : RFun.rep w B [.string f.name, c1, .int .i64 f.ret, c2] f) (hsz : funSz f ≤ 2000000) (hI : IdomUp f (upL f)) :
    Calls Try.prog 15 #[f.v c1 c2] w (EndPost (endsF f) w) := (mends_any f c1 c2 w B hB hf hsz).mono (by
  rintro e w' ⟨g, l, rfl, hl, hO, hb⟩
  have h1 : endsL (laidA f.blocks (phF f) (orderF f.blocks) f.blocks.length) l (orderF f.blocks) f.blocks.length = endsF f := by
    by_cases h0 : f.blocks.length = 0
    · unfold endsF; rw [h0]; rfl
    · have he : l = upL f := (hl (by omega)).eq (order_ok _) (dom_tab _ _ _)
      rw [he]; rfl
  rw [h1] at hO
  exact ⟨_, rfl, own_in hO (endsF_i64 hsz hI), hb⟩)
theorem rends_end (f : Fun) (c1 c2 : Value) (w : World) (B : Nat) (hB : B ≤ w.heap.size) (hf : RFun.rep w B [.string f.name, c1, .int .i64 f.ret, c2] f) (hsz : funSz f ≤ 2000000) (hI : IdomUp f (upL f)) :
    Calls Try.prog 16 #[f.v c1 c2] w (EndPost (endsF f) w) := (rmends_any f c1 c2 w B hB hf hsz (upL f) rfl hI).mono (by
  rintro e w' ⟨v, rfl, hO, hb⟩
  exact ⟨v, rfl, hO, hb⟩)
/-- the blocks of all rows of these accesses -/
def AcBl (es : List AcV) (k : Nat) : Prop := ∃ (j : Nat) (e : AcV), es[j]? = some e ∧ e.has k
/-- the accesses from number i on are as they were; the row itself holds its slices, whatever the kinds -/
structure AcFrom (w : World) (B : Nat) (v : Value) (LA : List Ac) (es : List AcV) (i : Nat) : Prop where
  row : ∃ ls : List Ac, ls.length = LA.length ∧ w.ownsRow B 37 5 v LA.length (List.zipWith acC ls es).flatten
  inn : ∀ (j : Nat) x e, i ≤ j → LA[j]? = some x → es[j]? = some e → OwnI w B e.d x.defs ∧ OwnI w B e.f x.orig
theorem alt_own {w : World} {B : Nat} {v : Value} {ls : List Ac} {es : List AcV} (h : OwnAc w B B v ls es) : ∀ k, (v.ownBlock = some k ∨ AcBl es k) → B ≤ k ∧ k < w.heap.size := fun k hk => by
  rcases hk with hk | ⟨j, e, he, hk⟩
  · exact ⟨(row_lt h.row hk).1, (row_lt h.row hk).2.1⟩
  · exact ⟨(h.in_lt he hk).1, (h.in_lt he hk).2.1⟩
theorem ac_cells {w : World} {B g C N : Nat} {ls : List Ac} {es : List AcV} (h : w.ownsRow B 37 5 (.slice (some ⟨g, 0, none⟩) N C) N (List.zipWith acC ls es).flatten) {i : Nat} {x : Ac} {e : AcV} (hx : ls[i]? = some x) (he : es[i]? = some e) (hi : i < N) :
    w.cell? ⟨g, i * 5, none⟩ = some (.int .i64 x.kind) ∧ w.cell? ⟨g, i * 5 + 3, none⟩ = some e.d ∧ w.cell? ⟨g, i * 5 + 4, none⟩ = some e.f := by
  have key : ∀ (j : Nat) u, (acC x e)[j]? = some u → w.cell? ⟨g, i * 5 + j, none⟩ = some u := fun j u hu => by
    have hj : j < 5 := (List.getElem?_eq_some_iff.1 hu).1
    rw [World.ownsRow.cellAt h (i * 5 + j) (by omega)]
    exact flatten_at acC_all (acC_at hx he) hu
  exact ⟨key 0 _ rfl, key 3 _ rfl, key 4 _ rfl⟩
theorem ac_wiped {w : World} {B g C N i : Nat} {LA ls : List Ac} {es : List AcV} {x : Ac} {e : AcV} (h : w.ownsRow B 37 5 (.slice (some ⟨g, 0, none⟩) N C) N (List.zipWith acC ls es).flatten) (hls : ls.length = N) (hN : LA.length = N) (hx : ls[i]? = some x) (he : es[i]? = some e)
    (hin : ∀ (j : Nat) x9 e9, i + 1 ≤ j → LA[j]? = some x9 → es[j]? = some e9 → OwnI w B e9.d x9.defs ∧ OwnI w B e9.f x9.orig) :
    AcFrom (w.setCell ⟨g, i * 5, none⟩ (.int .i64 9)) B (.slice (some ⟨g, 0, none⟩) N C) LA es (i + 1) := by
  have hi := (List.getElem?_eq_some_iff.1 hx).1
  obtain ⟨-, -, cg, hg⟩ := row_lt h (k := g) rfl
  refine ⟨⟨ls.set i ⟨9, x.block, x.pos, x.defs, x.orig⟩, by rw [List.length_set, hls, hN], ?_⟩, fun j x9 e9 hj hx9 he9 => ?_⟩
  · have h1 := ac_row_put (j := 0) (u := .int .i64 9) h acC_all (acC_at hx he) (by omega)
    rw [hN]
    have e1 : List.zipWith acC (ls.set i ⟨9, x.block, x.pos, x.defs, x.orig⟩) es = (List.zipWith acC ls es).set i ((acC x e).set 0 (.int .i64 9)) := by
      refine List.ext_getElem? fun k => ?_
      by_cases ek : i = k
      · subst ek
        rw [List.getElem?_set_self (by rw [List.length_zipWith]; have := (List.getElem?_eq_some_iff.1 he).1; omega)]
        exact acC_at (List.getElem?_set_self hi) he
      · rw [List.getElem?_set_ne ek, List.getElem?_zipWith, List.getElem?_zipWith, List.getElem?_set_ne ek]
    rw [e1]
    exact h1
  · obtain ⟨h1, h2⟩ := hin j x9 e9 hj hx9 he9
    have hk : ∀ {v : Value} {l : List Int}, OwnI w B v l → OwnI (w.setCell ⟨g, i * 5, none⟩ (.int .i64 9)) B v l := fun hv => ⟨row_kept hv.row fun q hq => by
      obtain ⟨-, -, c, hc⟩ := row_lt hv.row hq
      exact Below.heap_setCell _ _ _ _ (show q ≠ (⟨g, i * 5, none⟩ : Addr).block from blk_ne hc hg (by decide)), hv.ok⟩
    exact ⟨hk h1, hk h2⟩
theorem own_two {w : World} {B : Nat} {b l : Value} {lb ll : List Int} (hB : B ≤ w.heap.size) (h1 : OwnI w B b lb) (h2 : OwnI w B l ll) (hs : (⟨b, l⟩ : AcV).Sep) :
    OwnL (w.alloc (.cells #[b, l] 22)) B none (.slice (some ⟨w.heap.size, 0, none⟩) 2 2) [lb, ll] [b, l] := by
  have hk : ∀ {v : Value} {q : List Int}, OwnI w B v q → OwnI (w.alloc (.cells #[b, l] 22)) B v q := fun hv => hv.kept fun k _ hk => Below.heap_alloc w _ k hk
  refine ⟨⟨rfl, .inr ⟨w.heap.size, 2, _, rfl, hB, box_top _ _, Nat.le_refl _, by simp [maxLen], rfl, rfl⟩⟩, fun i c q hc hq => ?_, fun i j ci cj k hi hj hij hk' => ?_, fun i c k _ hk => by cases hk⟩
  · match i, hc, hq with
    | 0, hc, hq => cases hc; cases hq; exact hk h1
    | 1, hc, hq => cases hc; cases hq; exact hk h2
    | i + 2, hc, _ => simp at hc
  · match i, j, hi, hj with
    | 0, 0, _, _ => exact absurd rfl hij
    | 0, 1, hi, hj => cases hi; cases hj; exact hs k hk'
    | 1, 0, hi, hj => cases hi; cases hj; exact fun e => hs k e hk'
    | 1, 1, _, _ => exact absurd rfl hij
    | i + 2, _, hi, _ => simp at hi
    | 0, j + 2, _, hj => simp at hj
    | 1, j + 2, _, hj => simp at hj
theorem acc_sizes {f : Fun} (hsz : funSz f ≤ 2000000) : ∀ x, x ∈ accF f → x.defs.length ≤ 2000000 ∧ x.orig.length ≤ 2000000 := fun x hx => by
  unfold accF at hx
  split at hx
  · cases hx
  · unfold builtA at hx
    obtain ⟨i, hi, rfl⟩ := List.mem_mapIdx.1 hx
    obtain ⟨g1, g2⟩ := laidA_bare (List.getElem_mem hi)
    have hfl : ∀ b : Int, (fromL (predsL (succsF f.blocks) f.blocks.length) (orderF f.blocks) b).length ≤ 2000000 := fun b => by
      unfold fromL
      refine Nat.le_trans (List.length_filter_le ..) ?_
      rw [List.getD_eq_getElem?_getD]
      cases hp : (predsL (succsF f.blocks) f.blocks.length)[b.toNat]? with
      | none => simp
      | some p =>
        have hin : ∀ x, x ∈ p → 0 ≤ x ∧ x < f.blocks.length := fun x hx => by
          obtain ⟨h1, h2, -⟩ := (predsL_mem hp x).1 hx
          exact ⟨h1, h2⟩
        have := range_len f.blocks.length p ((predsL_sorted hp).imp fun h => by omega) hin
        have := (small_of hsz).blocks
        show p.length ≤ _
        omega
    unfold accD
    split
    · exact ⟨by simp, by show (_ : List Int).length ≤ _; rw [g2]; simp⟩
    · split
      · exact ⟨by rw [List.length_map]; exact hfl _, hfl _⟩
      · exact ⟨by rw [g1]; simp, by rw [g2]; simp⟩
set_option maxRecDepth 100000 in
set_option maxHeartbeats 12800000 in
theorem law_memssa_builds (f : Fun) (c1 c2 : Value) (w : World) (hf : RFun.rep w w.heap.size [.string f.name, c1, .int .i64 f.ret, c2] f) (hs : Small f) (hsz : funSz f ≤ 2000000) :
    Calls Try.prog 3 #[f.v c1 c2] w (LawPost w) := by
  obtain ⟨hp, hb⟩ := fun_open (RFun.later hf (Below.refl _ _) (Nat.le_refl _))
  obtain ⟨A1, k1, h1, -, -⟩ := Rp.slice1_open hp
  obtain ⟨A2, k2, h2, hm2, -⟩ := Rp.slice1_open hb
  cases h1; cases h2
  clear hp hb
  obtain ⟨n, hn⟩ : ∃ n, Hid (n = f.blocks.length) := ⟨_, hide rfl⟩
  have hnle : n ≤ 2000000 := by rw [hn.out]; exact hs.blocks
  obtain ⟨O, hO⟩ : ∃ O, Hid (O = orderF f.blocks) := ⟨_, hide rfl⟩
  obtain ⟨sc, hsc⟩ : ∃ sc, Hid (sc = succsF f.blocks) := ⟨_, hide rfl⟩
  obtain ⟨R, hR⟩ : ∃ R, Hid (R = reachF f.blocks) := ⟨_, hide rfl⟩
  obtain ⟨P, hP⟩ : ∃ P, Hid (P = predsL sc n) := ⟨_, hide rfl⟩
  have hPl : P.length = n := by rw [hP.out, predsL_len]
  have hRl : R.length = n := by rw [hR.out, hn.out, reach_len]
  have hsok : Hid (∀ b, SuccOk n (sc b)) := hide (fun b => by rw [hsc.out, hn.out]; exact succsF_ok _ _)
  have hok : Hid (OrderOk n sc O) := hide (by rw [hO.out, hn.out, hsc.out]; exact order_ok _)
  have hol : O.length ≤ n := by rw [hO.out, hn.out]; exact order_len _
  have hRat : Hid (∀ k : Nat, k < n → R[k]? = some (decide ((k : Int) ∈ O))) := hide (fun k hk => by rw [hR.out, hO.out]; exact reach_at _ _ (by rw [← hn.out]; exact hk))
  rw [← hn.out]
  rw [← hn.out] at hf hm2
  obtain ⟨W, hW, hwW, hWs, hx⟩ := boxes1 w #[.string f.name, .slice A1 f.params.length k1, .int .i64 f.ret, .slice A2 n k2] 25
  have q0 : ∀ w', Below W.heap.size W w' → w'.cell? ⟨w.heap.size, 0, none⟩ = some (.string f.name) := hx 0 _ rfl
  have q1 : ∀ w', Below W.heap.size W w' → w'.cell? ⟨w.heap.size, 1, none⟩ = some (.slice A1 f.params.length k1) := hx 1 _ rfl
  have q2 : ∀ w', Below W.heap.size W w' → w'.cell? ⟨w.heap.size, 2, none⟩ = some (.int .i64 f.ret) := hx 2 _ rfl
  have q3 : ∀ w', Below W.heap.size W w' → w'.cell? ⟨w.heap.size, 3, none⟩ = some (.slice A2 n k2) := hx 3 _ rfl
  clear hx
  have hws : w.heap.size ≤ W.heap.size := by omega
  replace hWs := hide hWs
  have hself := Below.refl W.heap.size W
  have hF : Hid (∀ w', Below W.heap.size W w' → RFun.rep w' w'.heap.size [.string f.name, .slice A1 f.params.length k1, .int .i64 f.ret, .slice A2 n k2] f) := hide (fun w' h => RFun.later hf (hwW.trans (h.mono hws)) (hwW.trans (h.mono hws)).size)
  obtain ⟨lb, hlb⟩ : ∃ lb, Hid (lb = long19F f) := ⟨_, hide rfl⟩
  have cL : Hid (∀ w', Below W.heap.size W w' → Calls Try.prog 9 #[f.v (.slice A1 f.params.length k1) (.slice A2 n k2)] w' (RetB lb w')) := hide (fun w' h => by
    have := long19_any f (.slice A1 f.params.length k1) (.slice A2 n k2) w' w'.heap.size (Nat.le_refl _) (hF.out w' h) hsz
    rwa [← hlb.out] at this)
  have hsmall := hide hs
  replace hs := hide hs
  replace hf := hide hf
  replace hwW := hide hwW
  replace hW := hide hW
  go_enter Try.func3, Try.ntmps3
  go_upto_region 1 with (fail)
  rw [hW.out]
  go_wp2_with (fail)
  refine (lives19_any _).mono ?_
  rintro e w1 ⟨rfl, hb1⟩
  go_wp2_with (fail)
  refine (cL.out _ hb1).mono ?_
  rintro e w2 ⟨rfl, hb2⟩
  have hbel2 := hb1.trans (hb2.mono hb1.size)
  clear hb1 hb2 cL
  cases lb with
  | true =>
    go_wp2
    go_ret
    exact ⟨rfl, hwW.out.trans (hbel2.mono hws)⟩
  | false =>
    have cC := hide (rcopyfunc_any f (.slice A1 f.params.length k1) (.slice A2 n k2) w2 w2.heap.size (Nat.le_refl _) (by have := hF.out w2 hbel2; exact this) hsmall.out)
    go_wp2_with (fail)
    refine cC.out.mono ?_
    rintro e w3 ⟨c, d, rfl, hOI, hOK, hb3⟩
    obtain ⟨Am, Cm, hcm⟩ := row_form hOI.row
    subst hcm
    obtain ⟨Ad, Cd, hdm⟩ : ∃ A C, d = .slice A n C := by
      obtain ⟨xs, h1, -⟩ := hOK.more
      obtain ⟨A, C, h⟩ := row_form h1
      exact ⟨A, C, by rw [h, hn.out]⟩
    subst hdm
    have hbel3 := hbel2.trans (hb3.mono hbel2.size)
    have hs3 := hbel3.size
    have hOI' := hide hOI
    have hOK' := hide hOK
    clear hOI hOK
    go_upto_region 6 with (fail)
    obtain ⟨Y, hY, hwY, hYs, hy⟩ := boxes1 w3 #[.string f.name, .slice Am f.params.length Cm, .int .i64 f.ret, .slice Ad n Cd] 25
    have hMI := hide (hOI'.out.kept (w' := Y) fun k _ hk => hwY.block k hk)
    have hMK := hide (hOK'.out.kept (w' := Y) fun k _ hk => hwY.block k hk)
    have hwYW : Hid (Below W.heap.size W Y) := hide (hbel3.trans (hwY.mono hs3))
    have hYss : Hid (W.heap.size ≤ Y.heap.size) := hide hwYW.out.size
    have m0 : ∀ w', Below Y.heap.size Y w' → w'.cell? ⟨w3.heap.size, 0, none⟩ = some (.string f.name) := hy 0 _ rfl
    have m1 : ∀ w', Below Y.heap.size Y w' → w'.cell? ⟨w3.heap.size, 1, none⟩ = some (.slice Am f.params.length Cm) := hy 1 _ rfl
    have m2 : ∀ w', Below Y.heap.size Y w' → w'.cell? ⟨w3.heap.size, 2, none⟩ = some (.int .i64 f.ret) := hy 2 _ rfl
    have m3 : ∀ w', Below Y.heap.size Y w' → w'.cell? ⟨w3.heap.size, 3, none⟩ = some (.slice Ad n Cd) := hy 3 _ rfl
    have z0 : ∀ w', Below Y.heap.size Y w' → w'.cell? ⟨w.heap.size, 0, none⟩ = some (.string f.name) := fun w' h => q0 w' (hwYW.out.trans (h.mono hYss.out))
    have z1 : ∀ w', Below Y.heap.size Y w' → w'.cell? ⟨w.heap.size, 1, none⟩ = some (.slice A1 f.params.length k1) := fun w' h => q1 w' (hwYW.out.trans (h.mono hYss.out))
    have z2 : ∀ w', Below Y.heap.size Y w' → w'.cell? ⟨w.heap.size, 2, none⟩ = some (.int .i64 f.ret) := fun w' h => q2 w' (hwYW.out.trans (h.mono hYss.out))
    have z3 : ∀ w', Below Y.heap.size Y w' → w'.cell? ⟨w.heap.size, 3, none⟩ = some (.slice A2 n k2) := fun w' h => q3 w' (hwYW.out.trans (h.mono hYss.out))
    have hfY : Hid (∀ w', Below Y.heap.size Y w' → RFun.rep w' w'.heap.size [.string f.name, .slice A1 f.params.length k1, .int .i64 f.ret, .slice A2 n k2] f) := hide (fun w' h => hF.out w' (hwYW.out.trans (h.mono hYss.out)))
    have hmY : Hid (∀ w', Below Y.heap.size Y w' → RFun.rep w' w'.heap.size [.string f.name, .slice Am f.params.length Cm, .int .i64 f.ret, .slice Ad n Cd] f) := hide (fun w' h => by
      obtain ⟨_, _, _, _, _, hr, hnm⟩ := hf.out
      exact RFun.later (w := Y) (B := Y.heap.size) ⟨_, _, rfl, hMI.out.rep, by have := hMK.out.rep; exact this, hr, hnm⟩ h h.size)
    have cB1 : Hid (∀ w', Below Y.heap.size Y w' → Calls Try.prog 11 #[f.v (.slice Am f.params.length Cm) (.slice Ad n Cd)] w' (AccPost (accF f) (IdomUp f (upL f)) w')) := hide (fun w' h9 => mbuild_acc f (.slice Am f.params.length Cm) (.slice Ad n Cd) w' w'.heap.size (Nat.le_refl _) (hmY.out w' h9) hsz)
    have cB2 : Hid (IdomUp f (upL f) → ∀ w', Below Y.heap.size Y w' → Calls Try.prog 12 #[f.v (.slice A1 f.params.length k1) (.slice A2 n k2)] w' (AccPost (accF f) True w')) := hide (fun hI w' h9 => rbuild_acc f (.slice A1 f.params.length k1) (.slice A2 n k2) w' w'.heap.size (Nat.le_refl _) (hfY.out w' h9) hsz hI)
    have cE1 : Hid (IdomUp f (upL f) → ∀ w', Below Y.heap.size Y w' → Calls Try.prog 15 #[f.v (.slice Am f.params.length Cm) (.slice Ad n Cd)] w' (EndPost (endsF f) w')) := hide (fun hI w' h9 => mends_end f (.slice Am f.params.length Cm) (.slice Ad n Cd) w' w'.heap.size (Nat.le_refl _) (hmY.out w' h9) hsz hI)
    have cE2 : Hid (IdomUp f (upL f) → ∀ w', Below Y.heap.size Y w' → Calls Try.prog 16 #[f.v (.slice A1 f.params.length k1) (.slice A2 n k2)] w' (EndPost (endsF f) w')) := hide (fun hI w' h9 => rends_end f (.slice A1 f.params.length k1) (.slice A2 n k2) w' w'.heap.size (Nat.le_refl _) (hfY.out w' h9) hsz hI)
    have cFu : Hid (∀ w', Below Y.heap.size Y w' → Calls Try.prog 17 #[f.v (.slice Am f.params.length Cm) (.slice Ad n Cd), f.v (.slice A1 f.params.length k1) (.slice A2 n k2)] w' (RetB true w')) := hide (fun w' h => by
      have := funcs_any f f (.slice Am f.params.length Cm) (.slice Ad n Cd) (.slice A1 f.params.length k1) (.slice A2 n k2) w' w'.heap.size (Nat.le_refl _) (hmY.out w' h) (hfY.out w' h)
      rwa [show decide (f = f) = true by simp] at this)
    obtain ⟨LA, hLA⟩ : ∃ LA, Hid (LA = accF f) := ⟨_, hide rfl⟩
    obtain ⟨EE, hEE⟩ : ∃ EE, Hid (EE = endsF f) := ⟨_, hide rfl⟩
    obtain ⟨ID, hID⟩ : ∃ ID : Prop, Hid (ID = IdomUp f (upL f)) := ⟨_, hide rfl⟩
    have hLAl : LA.length ≤ 4000001 := by rw [hLA.out]; exact accF_len hsz
    have hLAs : Hid (∀ x, x ∈ LA → x.defs.length ≤ 2000000 ∧ x.orig.length ≤ 2000000) := hide (by rw [hLA.out]; exact acc_sizes hsz)
    rw [← hLA.out] at cB1 cB2
    rw [← hEE.out] at cE1 cE2
    rw [← hID.out] at cB1 cB2 cE1 cE2
    obtain ⟨N, hN⟩ : ∃ N, Hid (LA.length = N) := ⟨_, hide rfl⟩
    rw [hN.out] at hLAl
    rw [hY]
    have hwYw : Hid (Below w.heap.size w Y) := hide (hwW.out.trans (hwYW.out.mono hws))
    have hwYs : Hid (w.heap.size ≤ Y.heap.size) := hide hwYw.out.size
    have hselfY := Below.refl Y.heap.size Y
    clear hY hy hwY hYs hMI hMK hOI' hOK' hbel3 hs3 hbel2 hb3 q0 q1 q2 q3 hself hF hW cC
    have hsz9 := hide hsz
    clear hsz
    go_region_held3 (fun w' => Below Y.heap.size Y w') (first | (with_reducible assumption) | exact hselfY.drew)
      (first
        | (go_at_call 11; refine (cB1.out _ hk1).mono ?_; rintro e V2 ⟨vb, esB, rfl, -, hL, hb⟩; have hk2 : Below Y.heap.size Y V2 := hk1.trans (hb.mono hk1.size); have hB2 := hide hL; have hA2 := hide (hA1.out.below hb); have h12 := hide hb.size; have hAlt : Hid (∀ k, (va.ownBlock = some k ∨ AcBl esA k) → Y.heap.size ≤ k ∧ k < V1.heap.size) := hide (alt_own hA1.out); clear hL hb)
        | (go_at_call 11; refine (cB1.out _ hselfY.drew).mono ?_; rintro e V1 ⟨va, esA, rfl, hIU, hL, hb⟩; have hk1 : Below Y.heap.size Y V1 := hselfY.drew.trans (hb.mono (Nat.le_refl _)); have hA1 := hide hL; have hIU := hide hIU; clear hL hb))
    have cB2 := hide (cB2.out hIU.out)
    have cE1 := hide (cE1.out hIU.out)
    have cE2 := hide (cE2.out hIU.out)
    clear hA1 hk1
    go_wp2_with (fail)
    refine (cB2.out _ hk2).mono ?_
    rintro e V3 ⟨vc, esC, rfl, -, hC3, hb3'⟩
    have hk3 := hk2.trans (hb3'.mono hk2.size)
    have hA3 := hide (hA2.out.below hb3')
    have hB3 := hide (hB2.out.below hb3')
    have hV2s := hb3'.size
    replace hC3 := hide hC3
    have hs3 := hk3.size
    have hself3 := Below.refl V3.heap.size V3
    have n0 : ∀ w', Below V3.heap.size V3 w' → w'.cell? ⟨w3.heap.size, 0, none⟩ = some (.string f.name) := fun w' h => m0 w' (hk3.trans (h.mono hs3))
    have n1 : ∀ w', Below V3.heap.size V3 w' → w'.cell? ⟨w3.heap.size, 1, none⟩ = some (.slice Am f.params.length Cm) := fun w' h => m1 w' (hk3.trans (h.mono hs3))
    have n2 : ∀ w', Below V3.heap.size V3 w' → w'.cell? ⟨w3.heap.size, 2, none⟩ = some (.int .i64 f.ret) := fun w' h => m2 w' (hk3.trans (h.mono hs3))
    have n3 : ∀ w', Below V3.heap.size V3 w' → w'.cell? ⟨w3.heap.size, 3, none⟩ = some (.slice Ad n Cd) := fun w' h => m3 w' (hk3.trans (h.mono hs3))
    have t0 : ∀ w', Below V3.heap.size V3 w' → w'.cell? ⟨w.heap.size, 0, none⟩ = some (.string f.name) := fun w' h => z0 w' (hk3.trans (h.mono hs3))
    have t1 : ∀ w', Below V3.heap.size V3 w' → w'.cell? ⟨w.heap.size, 1, none⟩ = some (.slice A1 f.params.length k1) := fun w' h => z1 w' (hk3.trans (h.mono hs3))
    have t2 : ∀ w', Below V3.heap.size V3 w' → w'.cell? ⟨w.heap.size, 2, none⟩ = some (.int .i64 f.ret) := fun w' h => z2 w' (hk3.trans (h.mono hs3))
    have t3 : ∀ w', Below V3.heap.size V3 w' → w'.cell? ⟨w.heap.size, 3, none⟩ = some (.slice A2 n k2) := fun w' h => z3 w' (hk3.trans (h.mono hs3))
    have h3Y : Hid (∀ w', Below V3.heap.size V3 w' → Below Y.heap.size Y w') := hide (fun w' h => hk3.trans (h.mono hs3))
    have cS := hide (accs_same V3.drew Y.heap.size V2.heap.size Y.heap.size V2.heap.size va vc LA esA esC (by rw [hN.out]; exact hLAl) (hA3.out.kept fun _ _ _ => rfl) (hC3.out.kept fun _ _ _ => rfl))
    clear hA2 hB2 hb3' hk2 hk3 hselfY m0 m1 m2 m3 z0 z1 z2 z3
    go_upto_region 8 with (fail)
    go_region_held3 (fun w' => Below V3.heap.size V3 w') (first | (with_reducible assumption) | exact hself3.drew)
      (first
        | (go_at_call 17; refine (cFu.out _ (h3Y.out _ hk7)).mono ?_; rintro e V8 ⟨rfl, hb⟩; have hk8 : Below V3.heap.size V3 V8 := hk7.trans (hb.mono hk7.size); clear hb)
        | (go_at_call 14; refine (ints_same (hE5.out.below hb6.out) hE6.out).mono ?_; rintro e V7 ⟨rfl, hb⟩; have hk7 : Below V3.heap.size V3 V7 := hk6.trans (hb.mono hk6.size); clear hb)
        | (go_at_call 16; refine (cE2.out _ (h3Y.out _ hk5)).mono ?_; rintro e V6 ⟨vE2, rfl, hE, hb⟩; have hk6 : Below V3.heap.size V3 V6 := hk5.trans (hb.mono hk5.size); have hE6 := hide hE; have hb6 := hide hb; clear hE hb)
        | (go_at_call 15; refine (cE1.out _ (h3Y.out _ hk4)).mono ?_; rintro e V5 ⟨vE1, rfl, hE, hb⟩; have hk5 : Below V3.heap.size V3 V5 := hk4.trans (hb.mono hk4.size); have hE5 := hide hE; clear hE hb)
        | (go_at_call 13; refine cS.out.mono ?_; rintro e V4 ⟨rfl, hb⟩; have hk4 : Below V3.heap.size V3 V4 := hself3.drew.trans (hb.mono (Nat.le_refl _)); clear hb))
    have hA8 := hide (hA3.out.kept (w' := V8) fun k _ hk => hk8.block k hk)
    have hB8 := hide (hB3.out.kept (w' := V8) fun k _ hk => hk8.block k hk)
    have hC8 := hide (hC3.out.kept (w' := V8) fun k _ hk => hk8.block k hk)
    obtain ⟨Aa, Ca, rfl⟩ := row_form hA8.out.row
    have hY8 := h3Y.out _ hk8
    have hs8 := hk8.size
    have hs1 := h12.out
    rw [hN.out] at hA8 hAlt ⊢
    have hAl2 : Hid (∀ k, (Aa = some ⟨k, 0, none⟩ ∨ AcBl esA k) → Y.heap.size ≤ k ∧ k < V1.heap.size) := hide (fun k hk => hAlt.out k (hk.imp (fun h => by rw [h]; rfl) id))
    have hYo : Hid (∀ w', Only (fun q => Aa = some ⟨q, 0, none⟩ ∨ AcBl esA q) V8.heap.size V8 w' → Below Y.heap.size Y w') := hide (fun w' ho => hY8.trans (ho.to_below (fun k hk => (hAl2.out k hk).1) hY8.size))
    have hfr0 : Hid (AcFrom V8 Y.heap.size (.slice Aa N Ca) LA esA 0) := hide ⟨⟨LA, rfl, hA8.out.row⟩, fun j x e _ hx he => hA8.out.inn j x e hx he⟩
    have hself8 := Only.refl (fun q => Aa = some ⟨q, 0, none⟩ ∨ AcBl esA q) V8.heap.size V8
    have hYs8 := hY8.size
    have hV18 : V1.heap.size ≤ V8.heap.size := by omega
    clear hA3 hB3 hC3 cE1 cE2 cFu cS cB1 cB2 hself3 n0 n1 n2 n3 t0 t1 t2 t3 hE5 hE6 hb6 hk4 hk5 hk6 hk7 hk8 h3Y hAlt
    go_wp2
    go_loopw [40, 7] (fun s s7 wr => ∃ i : Nat, s = .int .i64 i ∧ i ≤ N ∧ Hid (AcFrom wr Y.heap.size (.slice Aa N Ca) LA esA i) ∧ Only (fun q => Aa = some ⟨q, 0, none⟩ ∨ AcBl esA q) V8.heap.size V8 wr) (fun s _ _ => N - (intOf s).toNat)
    case atStart => exact ⟨0, rfl, Nat.zero_le _, hfr0, hself8⟩
    case round =>
      clear hfr0 hself8
      rename World => V
      obtain ⟨i, rfl, hi, hfr, hon⟩ := hrel
      have hVs := hon.size
      by_cases hlti : i < N
      · have hii : (i : Int) < (N : Int) := by omega
        obtain ⟨x, hx⟩ := get_ex (l := LA) (k := i) (by rw [hN.out]; exact hlti)
        obtain ⟨hz1, hz2⟩ := hLAs.out x (List.mem_of_getElem? hx.out)
        obtain ⟨⟨dA, fA⟩, heA⟩ := hA8.out.at_ hx.out
        obtain ⟨hdI, hfI⟩ := hfr.out.inn i x _ (Nat.le_refl _) hx.out heA
        have hdI : OwnI V Y.heap.size dA x.defs := hdI
        have hfI : OwnI V Y.heap.size fA x.orig := hfI
        obtain ⟨Ad9, Cd9, rfl⟩ := row_form hdI.row
        obtain ⟨Af9, Cf9, rfl⟩ := row_form hfI.row
        obtain ⟨ls, hls, hrow⟩ := hfr.out.row
        rw [hN.out] at hrow hls
        obtain ⟨ga, hga⟩ : ∃ ga, Aa = some ⟨ga, 0, none⟩ := by
          obtain ⟨g, cap, hv, -, -⟩ := hrow.form (by omega)
          simp only [Value.slice.injEq] at hv
          exact ⟨g, hv.1⟩
        subst hga
        obtain ⟨xl, hxl⟩ := get_ex (l := ls) (k := i) (by rw [hls]; exact hlti)
        obtain ⟨-, v3, v4⟩ := ac_cells hrow hxl.out heA hlti
        obtain ⟨-, hgaV, cga, hgaT⟩ := row_lt hrow (k := ga) rfl
        have hgaN : ¬ AcBl esA ga := by
          rintro ⟨j, e, he, hg⟩
          obtain ⟨-, -, c, hc⟩ := hA8.out.in_lt he hg
          obtain ⟨-, -, c', hc'⟩ := row_lt hA8.out.row (k := ga) rfl
          exact blk_ne hc hc' (by decide) rfl
        obtain ⟨nd, hnd⟩ : ∃ nd, Hid (x.defs.length = nd) := ⟨_, hide rfl⟩
        obtain ⟨nf, hnf⟩ : ∃ nf, Hid (x.orig.length = nf) := ⟨_, hide rfl⟩
        rw [hnd.out] at hdI heA v3
        rw [hnf.out] at hfI heA v4
        have a3 : ∀ w', Only (AcBl esA) V.heap.size V w' → w'.cell? ⟨ga, i * 5 + 3, none⟩ = some (.slice Ad9 nd Cd9) := Only.fact v3 hgaV hgaN
        have a4 : ∀ w', Only (AcBl esA) V.heap.size V w' → w'.cell? ⟨ga, i * 5 + 4, none⟩ = some (.slice Af9 nf Cf9) := Only.fact v4 hgaV hgaN
        have hsep := hA8.out.self i _ heA
        have hZd : Only (AcBl esA) V.heap.size V V.drew := (Only.refl _ _ _).drew
        have hZa : Only (AcBl esA) V.heap.size V (V.alloc (.cells #[.slice Ad9 nd Cd9, .slice Af9 nf Cf9] 22)) := (Only.refl _ _ _).alloc (Nat.le_refl _) _
        have hZda := hZa.drew
        have hYV := (hYo.out V hon).size
        have hOL := (own_two (w := V) (B := Y.heap.size) hYV hdI hfI hsep).kept (w' := (V.alloc (.cells #[.slice Ad9 nd Cd9, .slice Af9 nf Cf9] 22)).drew) (fun _ _ _ => rfl)
        have cW := hide (wipe_any ((V.alloc (.cells #[.slice Ad9 nd Cd9, .slice Af9 nf Cf9] 22)).drew) Y.heap.size V.heap.size 2 [x.defs, x.orig] [.slice Ad9 nd Cd9, .slice Af9 nf Cf9] (by show Y.heap.size ≤ (V.alloc _).heap.size; simp; omega) (by omega) rfl (fun l hl => by
          rcases List.mem_cons.1 hl with rfl | hl
          · omega
          · rw [List.mem_singleton.1 hl]; omega) hOL)
        replace hsep := hide hsep
        replace heA := hide heA
        replace hgaN := hide hgaN
        replace hrow := hide hrow
        replace hls := hide hls
        replace hdI := hide hdI
        replace hfI := hide hfI
        replace hgaT := hide hgaT
        have hfin : Hid (∀ Z2, Only (BlocksOf V.heap.size [.slice Ad9 nd Cd9, .slice Af9 nf Cf9]) (V.alloc (.cells #[.slice Ad9 nd Cd9, .slice Af9 nf Cf9] 22)).drew.heap.size (V.alloc (.cells #[.slice Ad9 nd Cd9, .slice Af9 nf Cf9] 22)).drew Z2 →
            Only (AcBl esA) V.heap.size V Z2 ∧ AcFrom (Z2.setCell ⟨ga, i * 5, none⟩ (.int .i64 9)) Y.heap.size (.slice (some ⟨ga, 0, none⟩) N Ca) LA esA (i + 1) ∧ Z2.cell? ⟨ga, i * 5, none⟩ = some (.int .i64 xl.kind) ∧ Z2.frozen? ⟨ga, i * 5, none⟩ = false ∧ Only (fun q => (some ⟨ga, 0, none⟩ : Option Addr) = some ⟨q, 0, none⟩ ∨ AcBl esA q) V8.heap.size V8 (Z2.setCell ⟨ga, i * 5, none⟩ (.int .i64 9))) := hide (fun Z2 hW2 => by
             have hkZ2 : Only (AcBl esA) V.heap.size V Z2 := hZda.trans ((hW2.mono (by show V.heap.size ≤ (V.alloc _).heap.size; simp <;> omega)).more (fun k hk hb => by
               rcases hb with hb | ⟨j, c, hc, hb⟩
               · omega
               · refine ⟨i, _, heA.out, ?_⟩
                 match j, hc with
                 | 0, hc => cases hc; exact .inl hb
                 | 1, hc => cases hc; exact .inr hb
                 | j + 2, hc => simp at hc))
             have hrow2 : Z2.ownsRow Y.heap.size 37 5 (.slice (some ⟨ga, 0, none⟩) N Ca) N (List.zipWith acC ls esA).flatten := row_kept hrow.out fun k hk => by
               have e9 : ga = k := Option.some.inj hk
               subst e9
               exact hkZ2.block ga hgaV hgaN.out
             have hin2 : ∀ (j : Nat) x9 e9, i + 1 ≤ j → LA[j]? = some x9 → esA[j]? = some e9 → OwnI Z2 Y.heap.size e9.d x9.defs ∧ OwnI Z2 Y.heap.size e9.f x9.orig := fun j x9 e9 hj hx9 he9 => by
               obtain ⟨h1, h2⟩ := hfr.out.inn j x9 e9 (by omega) hx9 he9
               have hkk : ∀ {v : Value} {l : List Int}, OwnI V Y.heap.size v l → (∀ k, v.ownBlock = some k → e9.has k) → OwnI Z2 Y.heap.size v l := fun {v l} hv hh => ⟨row_kept hv.row fun k hk => by
                 have hlt := (row_lt hv.row hk).2.1
                 have hne : ¬ BlocksOf V.heap.size [.slice Ad9 nd Cd9, .slice Af9 nf Cf9] k := by
                   rintro (rfl | ⟨j', c, hc, hb⟩)
                   · omega
                   · refine hA8.out.apart i j _ e9 k heA.out he9 (by omega) ?_ (hh k hk)
                     match j', hc with
                     | 0, hc => cases hc; exact .inl hb
                     | 1, hc => cases hc; exact .inr hb
                     | j' + 2, hc => simp at hc
                 rw [hW2.block k (by show k < (V.alloc _).heap.size; simp; omega) hne]
                 exact Below.heap_alloc V _ k hlt, hv.ok⟩
               exact ⟨hkk h1 (fun k hk => .inl hk), hkk h2 (fun k hk => .inr hk)⟩
             have hfr2 : (AcFrom (Z2.setCell ⟨ga, i * 5, none⟩ (.int .i64 9)) Y.heap.size (.slice (some ⟨ga, 0, none⟩) N Ca) LA esA (i + 1)) := (ac_wiped hrow2 hls.out (hN.out) hxl.out heA.out hin2)
             obtain ⟨r0, -, -⟩ := ac_cells hrow2 hxl.out heA.out hlti
             have f0 : Z2.frozen? ⟨ga, i * 5, none⟩ = false := World.ownsRow.frozenAt hrow2 (i * 5)
             have hon2 : Only (fun q => (some ⟨ga, 0, none⟩ : Option Addr) = some ⟨q, 0, none⟩ ∨ AcBl esA q) V8.heap.size V8 (Z2.setCell ⟨ga, i * 5, none⟩ (.int .i64 9)) := (hon.trans ((hkZ2.mono hVs).more (fun k _ hk => .inr hk))).setCell (p := ⟨ga, i * 5, none⟩) (.inl (.inl rfl)) _
             exact ⟨hkZ2, hfr2, r0, f0, hon2⟩)
        clear hOL v3 v4 hrow hdI hfI hsep
        go_upto_region 13 with (fail)
        go_region_held3 (fun w' => Only (AcBl esA) V.heap.size V w') (first | (with_reducible assumption) | (with_reducible exact hZd) | (with_reducible exact hZda))
          (first
            | (go_at_call 18; refine cW.out.mono ?_; rintro e Z2 ⟨rfl, hW2⟩; obtain ⟨hkZ2, hfr2, r0, f0, hon2⟩ := hfin.out Z2 hW2; have hfr2 := hide hfr2; clear hW2))
        clear a3 a4 hZd hZa hZda cW hfin
        go_wp2
        go_roundw
        case rel => exact ⟨i + 1, by go_num, hlti, hfr2, hon2⟩
        case measure => simp [intOf]; omega
      · obtain rfl : i = N := by omega
        have hB9 := hB8.out.kept (w' := V) fun k h1 h2 => hon.block k h2 (fun hb => by have := (hAl2.out k hb).2; omega)
        have hC9 := hC8.out.kept (w' := V) fun k h1 h2 => hon.block k h2 (fun hb => by have := (hAl2.out k hb).2; omega)
        have cS := hide (accs_same V V1.heap.size V2.heap.size V1.heap.size V2.heap.size _ _ LA esB esC (by rw [hN.out]; exact hLAl) hB9 hC9)
        have hYV := hYo.out V hon
        replace hB9 := hide hB9
        replace hC9 := hide hC9
        clear hfr
        go_wp2_with (fail)
        refine cS.out.mono ?_
        rintro e Q ⟨rfl, hb⟩
        have hw := hide (hwYw.out.trans ((hYV.trans (hb.mono hYV.size)).mono hwYs.out))
        go_wp2
        go_ret
        exact ⟨rfl, hw.out⟩
end Go.Proofs.Yteeclobpajalmaa
