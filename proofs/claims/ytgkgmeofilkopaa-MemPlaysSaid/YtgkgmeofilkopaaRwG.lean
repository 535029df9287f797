/- Layer 9's reference: Store, walked. No condition but a number within its kind. -/
import Derived.Test.YtgkgmeofilkopaaRwF
import Derived.Test.YtgkgmeofilkopaaMwM
import Derived.StillTailTactics
namespace Go.Proofs.Ytgkgmeofilkopaa
open Go.RowKit
set_option linter.unusedSimpArgs false
set_option linter.unusedVariables false

theorem RefM.mono {w : World} {B B' E : Nat} {v : Value} {bs : MemS} (h : RefM w B E v bs) (hb : B' ≤ B) : RefM w B' w.heap.size v bs := by
  obtain ⟨h0, ess, h1, h2, h3, h4, h5⟩ := h
  refine ⟨Nat.le_refl _, ess, h1, ⟨h2.1, ?_⟩, fun k hk => Nat.lt_of_lt_of_le (h3 k hk) h0, fun i es b he hb' => ?_, h5⟩
  · rcases h2.2 with h | ⟨g, cap, cur, e, h, rest⟩
    · exact .inl h
    · exact .inr ⟨g, cap, cur, e, Nat.le_trans hb h, rest⟩
  · obtain ⟨x, e, hx⟩ := h4 i es b he hb'
    exact ⟨x, e, hx.own.mono hb, fun k hk => Nat.lt_of_lt_of_le (hx.lt k hk) h0, hx.ok, hx.len⟩
theorem Own.toB {w : World} {base B : Nat} {v : Value} {l : List Byt} (h : Own RByu 5 54 w base B v l) : OwnB w base v l := by
  obtain ⟨ess, h1, h2, h3⟩ := h
  have e : ess = l.map bc := by
    apply List.ext_getElem?
    intro i
    rw [List.getElem?_map]
    rcases Nat.lt_or_ge i l.length with hi | hi
    · have he := List.getElem?_eq_getElem (show i < ess.length by omega)
      have hy := List.getElem?_eq_getElem hi
      obtain ⟨-, ⟨h4, -⟩⟩ := h3 i _ _ he hy
      rw [he, hy, Option.map_some, h4]
    · rw [List.getElem?_eq_none (by omega), List.getElem?_eq_none hi]; rfl
  subst e
  unfold OwnB
  rw [← List.flatMap_def] at h2
  exact h2
theorem layB_nil (l : List Byt) (o : Nat) : layB l o [] = l := by simp [layB]
theorem layB_snoc {l p : List Byt} {o j : Nat} {b : Byt} (hb : p[j]? = some b) (h : o + p.length ≤ l.length) : layB l o (p.take (j + 1)) = (layB l o (p.take j)).set (o + j) b := by
  have hj := (List.getElem?_eq_some_iff.1 hb).1
  have e1 : (p.take (j + 1)).length = j + 1 := by rw [List.length_take]; omega
  have e2 : (p.take j).length = j := by rw [List.length_take]; omega
  apply List.ext_getElem?
  intro m
  rw [List.getElem?_set, layB_get (by omega), layB_get (by omega), layB_len (by omega), e1, e2]
  by_cases c : o + j = m
  · subst c
    rw [if_pos (by omega), if_pos rfl, if_pos (by omega), show o + j - o = j by omega, List.getElem?_take_of_lt (by omega), hb]
  · rw [if_neg c]
    by_cases c2 : o ≤ m ∧ m < o + j
    · rw [if_pos (by omega), if_pos c2, List.getElem?_take_of_lt (by omega), List.getElem?_take_of_lt (by omega)]
    · rw [if_neg (by omega), if_neg c2]
theorem index_small {o j m : Nat} (h1 : o + j < m) (h2 : m ≤ 4096) : IntKind.i64.wrap ((o : Int) + (j : Int)) = (o : Int) + (j : Int) ∧ (0 : Int) ≤ (o : Int) + (j : Int) ∧ (o : Int) + (j : Int) < (m : Int) ∧ ((o : Int) + (j : Int)).toNat = o + j := by
  obtain ⟨a1, a2, a3, a4⟩ := facts_small (o := o) (n := j) (c' := 5000) (by omega) (by omega)
  exact ⟨a1, a2, by omega, a4⟩
theorem hid_drew {w : World} {B E : Nat} {v : Value} {bs : MemS} (h : Hid (RefM w B E v bs)) : Hid (RefM w.drew B E v bs) := hide (h.out.kept (fun _ _ _ => rfl) (Nat.le_refl _) h.out.size)
theorem upd_drew {F : Nat → Prop} {a w : World} (h : Hid (Upd F a w)) : Upd F a w.drew := ⟨h.out.os, h.out.tape, h.out.output, h.out.size, h.out.block⟩
def RStorePost (bs : MemS) (t : Int) (v a : Val) (w : World) (e : Ending) (w' : World) : Prop := ∃ c, e = .returned (.tuple #[c, .bool (storeS bs t v a).2]) ∧ RefM w' w.heap.size w'.heap.size c (storeS bs t v a).1 ∧ Below w.heap.size w w'
set_option maxRecDepth 100000 in
set_option maxHeartbeats 6400000 in
theorem rstore_any (B E : Nat) (c : Value) (bs : MemS) (t : Int) (v a : Val) (w : World) (h : RefM w B E c bs) (hs : bs.length ≤ 100000) (hv : 0 ≤ v.bits ∧ v.bits ≤ 18446744073709551615) :
    Calls Try.prog 95 #[c, .int .i64 t, vv v, vv a] w (RStorePost bs t v a w) := by
  obtain ⟨W, hW, hwW, hWs, q1, q2⟩ := boxes2 w #[.int .i64 v.kind, .int .u64 v.bits, .int .i64 v.block, .int .i64 v.off] #[.int .i64 a.kind, .int .u64 a.bits, .int .i64 a.block, .int .i64 a.off] 47 47
  have v0 := q1 0 _ rfl
  have v1 := q1 1 _ rfl
  have v2 := q1 2 _ rfl
  have v3 := q1 3 _ rfl
  have a0 := q2 0 _ rfl
  have a1 := q2 1 _ rfl
  have a2 := q2 2 _ rfl
  have a3 := q2 3 _ rfl
  clear q1 q2
  have hM := h.later hwW
  have hC := hide (rcopy_any B E c bs W hM hs)
  have cI : Hid (∀ W', Below W.heap.size W W' → Calls Try.prog 112 #[c, .int .i64 t, vv a] W' fun e w' => e = .returned (.bool (spanS bs t a).isSome) ∧ Below W'.heap.size W' w') := hide (fun W' h' => inside_any B E c bs t a W' (hM.later h'))
  have hws : w.heap.size + 1 < W.heap.size := by omega
  replace hWs := hide hWs
  replace hwW := hide hwW
  replace hW := hide hW
  clear h hM
  cases hsp : spanS bs t a with
  | none =>
    have e0 : Hid (storeS bs t v a = (bs, false)) := hide (by unfold storeS; rw [hsp])
    rw [hsp] at cI
    clear hsp
    go_enter Try.func95, Try.ntmps95
    go_upto_region 1 with (fail)
    rw [hW.out]
    clear hW
    go_wp2_with fail
    refine hC.out.mono ?_
    rintro e w1 ⟨c1, rfl, hR1, hb1⟩
    replace hR1 := hide hR1
    go_wp2_with fail
    refine (cI.out w1 hb1).mono ?_
    rintro e w2 ⟨rfl, hb2⟩
    have hR2 := hide (hR1.out.later hb2)
    have hb3 := hide (hb1.trans (hb2.mono hb1.size))
    clear hb1 hb2
    go_wp2
    go_ret2
    exact ⟨c1, by rw [e0.out]; rfl, by rw [e0.out]; exact hR2.out.mono (by omega), hwW.out.trans (hb3.out.mono (by omega))⟩
  | some lo =>
    obtain ⟨l, o⟩ := lo
    obtain ⟨k, s1, s2, s3, s4, s5, s6⟩ := span_some hsp
    have e0 : Hid (storeS bs t v a = (bs.set k (some (layB l o (packS t v))), true)) := hide (by unfold storeS; rw [hsp]; simp only; rw [s3]; rfl)
    rw [hsp] at cI
    obtain ⟨n, hn⟩ : ∃ n : Nat, Hid (n = (packS t v).length) := ⟨_, hide rfl⟩
    have hfit : Hid (o + (packS t v).length ≤ l.length) := hide (pack_fits s6)
    have hk := (List.getElem?_eq_some_iff.1 s4).1
    obtain ⟨N, hN⟩ : ∃ N, Hid (N = bs.length) := ⟨_, hide rfl⟩
    rw [← hN.out] at hk
    obtain ⟨m, hm⟩ : ∃ m, Hid (m = l.length) := ⟨_, hide rfl⟩
    have hon : o + n ≤ m := by rw [hn.out, hm.out]; exact hfit.out
    obtain ⟨kd, bt, bl, off⟩ := a
    simp only at s1 s3 s5 a0 a1 a2 a3
    subst s1 s3 s5
    replace s4 := hide s4
    clear hsp s2 s6
    go_enter Try.func95, Try.ntmps95
    go_upto_region 1 with (fail)
    rw [hW.out]
    clear hW
    go_wp2_with fail
    refine hC.out.mono ?_
    rintro e w1 ⟨c1, rfl, hR1, hb1⟩
    replace hR1 := hide hR1
    have hsz1 := hb1.size
    go_wp2_with fail
    refine (cI.out w1 hb1).mono ?_
    rintro e w2 ⟨rfl, hb2⟩
    have hR2 := hide (hR1.out.later hb2)
    have hb3 := hb1.trans (hb2.mono hsz1)
    have hsz2 := hb2.size
    clear hb1 hb2 hR1
    have hP := hide (rpack_any t v w2 hv)
    go_wp2_with fail
    refine hP.out.mono ?_
    rintro e w3 ⟨p, rfl, hO, hb4⟩
    have hO3 := hO.toB
    obtain ⟨Ap, cp, rfl⟩ : ∃ Ap cp, p = .slice Ap n cp := by
      rcases hO3.2 with ⟨e1, h0⟩ | ⟨g, cc, cur, e1, _⟩
      · exact ⟨none, 0, by rw [e1]; congr 1; have := hn.out; omega⟩
      · exact ⟨_, cc, by rw [e1, hn.out]⟩
    have hR3 := hide (hR2.out.later hb4)
    have hb5 := hb3.trans (hb4.mono hb3.size)
    have hs5 := hb5.size
    have ha2 : ∀ w', Upd (fun j => W.heap.size ≤ j ∧ j < w1.heap.size) w3 w' → w'.cell? ⟨w.heap.size + 1, 2, none⟩ = some (.int .i64 (k : Int)) := fun w' h' => (cell_of_heap (h'.block _ (by omega) (by omega))).trans (a2 w3 hb5)
    have ha3 : ∀ w', Upd (fun j => W.heap.size ≤ j ∧ j < w1.heap.size) w3 w' → w'.cell? ⟨w.heap.size + 1, 3, none⟩ = some (.int .i64 (o : Int)) := fun w' h' => (cell_of_heap (h'.block _ (by omega) (by omega))).trans (a3 w3 hb5)
    have hselfU : Upd (fun j => W.heap.size ≤ j ∧ j < w1.heap.size) w3 w3 := Upd.of_below (Below.refl _ _)
    have hbl : Hid (Below W.heap.size W w3) := hide hb5
    replace hO3 := hide hO3
    clear hO hb3 hb4 hb5 v0 v1 v2 v3 a0 a1 a2 a3 hR2
    obtain ⟨A1, C1, rfl⟩ := hR3.out.form
    rw [← hN.out]
    go_wp2_with fail
    go_loopw [13] (fun u13 wr => ∃ j : Nat, j ≤ n ∧ u13 = .int .i64 j ∧ Hid (RefM wr W.heap.size w1.heap.size (.slice A1 N C1) (bs.set k (some (layB l o ((packS t v).take j))))) ∧ Upd (fun j => W.heap.size ≤ j ∧ j < w1.heap.size) w3 wr) (fun u13 _ => n - (intOf u13).toNat)
    case atStart => exact ⟨0, Nat.zero_le _, rfl, hide (by rw [List.take_zero, layB_nil, set_self s4.out, hN.out]; exact hR3.out), hselfU⟩
    case round =>
      clear hselfU
      obtain ⟨j, hj, rfl, hR, hu⟩ := hrel
      by_cases hlt : j < n
      · obtain ⟨b, hb⟩ := get_ex (l := packS t v) (k := j) (by rw [← hn.out]; exact hlt)
        obtain ⟨gp, hgp, hp0, hp1, d0, d1, d2, d3, d4⟩ := hO3.out.at_ hb.out
        subst hgp
        have hgs : gp < w3.heap.size := hp1
        have p0 := (cell_of_heap (j := j * 5) (hu.block gp hgs (by omega))).trans d0
        have p1 := (cell_of_heap (j := j * 5 + 1) (hu.block gp hgs (by omega))).trans d1
        have p2 := (cell_of_heap (j := j * 5 + 2) (hu.block gp hgs (by omega))).trans d2
        have p3 := (cell_of_heap (j := j * 5 + 3) (hu.block gp hgs (by omega))).trans d3
        have p4 := (cell_of_heap (j := j * 5 + 4) (hu.block gp hgs (by omega))).trans d4
        clear d0 d1 d2 d3 d4
        obtain ⟨cur, hcur⟩ : ∃ cur, Hid (cur = layB l o ((packS t v).take j)) := ⟨_, hide rfl⟩
        rw [← hcur.out] at hR
        have hclen : cur.length = m := by rw [hcur.out, layB_len (by rw [List.length_take]; have := hfit.out; omega), hm.out]
        have hget : (bs.set k (some cur))[k]? = some (some cur) := List.getElem?_set_self (by rw [← hN.out]; exact hk)
        obtain ⟨g, C', A', c', hcc, hg0, hg1, -, e2, hx⟩ := hR.out.at_ hget
        rw [show (some cur : Option (List Byt)).getD [] = cur from rfl] at e2 hx
        have hm8 := hx.len
        rw [hclen] at hm8 e2
        obtain ⟨q, rfl, hq0, hq1⟩ := hx.some_ (by omega)
        rw [List.length_set, ← hN.out] at hcc
        cases hcc
        have hcell : w3 = w3 := rfl
        obtain ⟨b0, hb0⟩ := get_ex (l := cur) (k := o + j) (by omega)
        obtain ⟨q', hq', -, -, r0, r1, r2, r3, r4⟩ := hx.own.at_ (k := o + j) hb0.out
        cases hq'
        have f : ∀ i, wr.frozen? ⟨q, i, none⟩ = false := fun i => World.ownsRow.frozenAt hx.own i
        have f0 := f ((o + j) * 5)
        have f1 := f ((o + j) * 5 + 1)
        have f2 := f ((o + j) * 5 + 2)
        have f3 := f ((o + j) * 5 + 3)
        have f4 := f ((o + j) * 5 + 4)
        have hput := RefM.byte (j := o + j) (b := b) (q := q) (c := c') hR.out hget ⟨g, C1, by rw [List.length_set, ← hN.out], by rw [hclen]; exact e2⟩ (by omega) (okB_pack t v b (List.mem_of_getElem? hb.out)) rfl
        rw [List.set_set, show cur.set (o + j) b = layB l o ((packS t v).take (j + 1)) by rw [layB_snoc hb.out hfit.out, hcur.out]] at hput
        have hup := hide (hu.five (q := q) (k := o + j) (v0 := .int .i64 b.kind) (v1 := .int .u8 b.bits) (v2 := .int .i64 b.block) (v3 := .int .i64 b.off) (v4 := .int .i64 b.i) ⟨hput.2, hx.lt q rfl⟩)
        replace hput := hide hput.1
        obtain ⟨i1, i2, i3, i4⟩ := index_small (o := o) (j := j) (m := m) (by omega) hm8
        have hu2 := hide hu
        clear hcell f hget hclen hx
        go_upto_region 9 with (fail)
        go_still_tail 15, (by kernel_rfl)
        change wpList _ _ _ _ _ wr.drew
        go_wp2
        go_roundw
        case rel => exact ⟨j + 1, by omega, by go_num, hid_drew hput, upd_drew hup⟩
        case measure => simp [intOf]; omega
      · obtain rfl : j = n := by omega
        rw [List.take_of_length_le (by have := hn.out; omega)] at hR
        have hbf := hide (hbl.out.trans (hu.below hs5 (fun i hi => hi.1)))
        replace hu := hide hu
        go_wp2
        go_ret2
        exact ⟨_, by rw [e0.out]; rfl, by rw [e0.out]; exact hR.out.mono (by omega), hwW.out.trans (hbf.out.mono (by omega))⟩
end Go.Proofs.Ytgkgmeofilkopaa
