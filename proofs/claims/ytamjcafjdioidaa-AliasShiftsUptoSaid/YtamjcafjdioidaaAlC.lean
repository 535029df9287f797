/- alias.Root. No condition but sizes. -/
import Derived.Test.YtamjcafjdioidaaAlB
import Derived.Test.YtamjcafjdioidaaMset
import Derived.Test.YtamjcafjdioidaaSm
namespace Go.Proofs.Ytamjcafjdioidaa
open Go.RowKit
set_option linter.unusedSimpArgs false
set_option linter.unusedVariables false

theorem nodup_sub_len {l m : List Int} (hd : l.Nodup) (hs : ∀ x, x ∈ l → x ∈ m) : l.length ≤ m.length := by
  induction l generalizing m with
  | nil => simp
  | cons a l ih =>
    obtain ⟨h1, h2⟩ := List.nodup_cons.1 hd
    have ha := hs a (List.mem_cons_self ..)
    obtain ⟨p, q, rfl⟩ := List.append_of_mem ha
    have := ih (m := p ++ q) h2 fun x hx => by
      have h3 := hs x (List.mem_cons_of_mem _ hx)
      rcases List.mem_append.1 h3 with h4 | h4
      · exact List.mem_append_left _ h4
      · rcases List.mem_cons.1 h4 with rfl | h4
        · exact (h1 hx).elim
        · exact List.mem_append_right _ h4
    simp only [List.length_cons, List.length_append] at this ⊢
    omega
section
variable {bs : List (List Ins)} {g : Nat} {met : List Int} {off : Int} {known : Bool} {v : Opd}
theorem rootGo_none (h : makerS bs v = none) : rootGo bs (g + 1) met off known v = (v, off, known) := by
  rw [rootGo, h]; rfl
theorem rootGo_stop {ins : Ins} {i : Nat} (h : makerS bs v = some (ins, i)) (hn : gepOf ins = none) : rootGo bs (g + 1) met off known v = (v, off, known) := by
  rw [rootGo, h]
  simp only [Option.bind_some, hn]
theorem rootGo_met {ins : Ins} {i : Nat} {a b : Opd} (h : makerS bs v = some (ins, i)) (hn : gepOf ins = some (a, b)) (hm : met.contains v.num = true) : rootGo bs (g + 1) met off known v = (v, off, false) := by
  rw [rootGo, h]
  simp only [Option.bind_some, hn, hm, if_true]
theorem rootGo_step {ins : Ins} {i : Nat} {a b : Opd} (h : makerS bs v = some (ins, i)) (hn : gepOf ins = some (a, b)) (hm : met.contains v.num = false) :
    rootGo bs (g + 1) met off known v = rootGo bs g (v.num :: met) (if b.kind = 2 then offAdd off b.bits else off) (known && decide (b.kind = 2)) a := by
  rw [rootGo, h]
  simp only [Option.bind_some, hn, hm, Bool.false_eq_true, if_false]
end
theorem insCount_le (f : Fun) : f.blocks.flatten.length ≤ funSz f := by
  unfold funSz blksSz
  have : f.blocks.flatten.length ≤ (f.blocks.map blkSz).sum := by
    generalize f.blocks = l
    induction l with
    | nil => simp
    | cons x l ih =>
      simp only [List.flatten_cons, List.length_append, List.map_cons, List.sum_cons]
      have h2 : x.length ≤ (x.map insSz).sum := sum_len insSz (fun x => by unfold insSz; omega) x
      have h3 : blkSz x = (x.map insSz).sum + 1 := rfl
      omega
  omega
theorem gepOf_args {ins : Ins} {a b : Opd} {rest : List Opd} (h : ins.op = 29) (ha : ins.args = a :: b :: rest) : gepOf ins = some (a, b) := by unfold gepOf; rw [if_pos h, ha]
theorem gepOf_op {ins : Ins} (h : ins.op ≠ 29) : gepOf ins = none := by unfold gepOf; rw [if_neg h]
theorem gepOf_short {ins : Ins} (h : ins.args.length < 2) : gepOf ins = none := by
  unfold gepOf
  split
  · split
    · rename_i a b r e; rw [e] at h; simp at h; omega
    · rfl
  · rfl
theorem mset_cell {w : World} {M n o : Nat} {q : Int → Bool} (h : MSet w M n q) : w.cell? ⟨M, o, none⟩ = none := by
  obtain ⟨D, ⟨es, clock, h1, h2⟩, hq⟩ := h
  simp [World.cell?, h1]
def RootPost (bs : List (List Ins)) (v : Opd) (w : World) (e : Ending) (w' : World) : Prop :=
  e = .returned (.tuple #[.agg #[.int .i64 (rootS bs v).1.kind, .int .i64 (rootS bs v).1.num, .int .u64 (rootS bs v).1.bits], .int .i64 (rootS bs v).2.1, .bool (rootS bs v).2.2]) ∧ (I64 (rootS bs v).1.kind ∧ I64 (rootS bs v).1.num) ∧ Below w.heap.size w w'
def VM (VB M k : Nat) : Prop := k = VB ∨ k = M
set_option maxRecDepth 100000 in
set_option maxHeartbeats 12800000 in
theorem root_any (f : Fun) (v0 : Opd) (hv : I64 v0.kind ∧ I64 v0.num) (c1 c2 : Value) (w : World) (B : Nat) (hB : B ≤ w.heap.size) (hf : RFun.rep w B [.string f.name, c1, .int .i64 f.ret, c2] f) (hz : funSz f ≤ 2000000) :
    Calls Try.prog 10 #[f.v c1 c2, .agg #[.int .i64 v0.kind, .int .i64 v0.num, .int .u64 v0.bits]] w (RootPost f.blocks v0 w) := by
  have hs := small_of hz
  have hRl : (regsM f.blocks).length ≤ 2000000 := by
    unfold regsM
    rw [List.length_map]
    exact Nat.le_trans (insCount_le f) hz
  obtain ⟨hp, hb⟩ := fun_open (RFun.later hf (Below.refl _ _) hB)
  obtain ⟨A1, k1, h1, -, -⟩ := Rp.slice1_open hp
  obtain ⟨A2, k2, h2, hm2, -⟩ := Rp.slice1_open hb
  cases h1; cases h2
  clear hp hb
  obtain ⟨n, hn⟩ : ∃ n, Hid (n = f.blocks.length) := ⟨_, hide rfl⟩
  obtain ⟨N, hN⟩ : ∃ N, Hid (N = (regsM f.blocks).length) := ⟨_, hide rfl⟩
  rw [← hN.out] at hRl
  rw [← hn.out] at hf hm2 ⊢
  obtain ⟨W, hW, hwW, hWs, hx0, hx1, hx2⟩ := boxes3 w #[.string f.name, .slice A1 f.params.length k1, .int .i64 f.ret, .slice A2 n k2] #[.int .i64 v0.kind, .int .i64 v0.num, .int .u64 v0.bits] #[.int .i64 0, .int .i64 0, .int .u64 0] 32 42 42
  have hV0 : Hid (W.heap[w.heap.size + 1]? = some (.cells #[.int .i64 v0.kind, .int .i64 v0.num, .int .u64 v0.bits] 42 (0, 0))) := hide (by rw [← hW]; exact one_alloc (box_at _ (by simp)) _)
  have hR0 : Hid (W.heap[w.heap.size + 1 + 1]? = some (.cells #[.int .i64 0, .int .i64 0, .int .u64 0] 42 (0, 0))) := hide (by rw [← hW]; exact box_at _ (by simp))
  have q0 : ∀ w', Below W.heap.size W w' → w'.cell? ⟨w.heap.size, 0, none⟩ = some (.string f.name) := hx0 0 _ rfl
  have q1 : ∀ w', Below W.heap.size W w' → w'.cell? ⟨w.heap.size, 1, none⟩ = some (.slice A1 f.params.length k1) := hx0 1 _ rfl
  have q2 : ∀ w', Below W.heap.size W w' → w'.cell? ⟨w.heap.size, 2, none⟩ = some (.int .i64 f.ret) := hx0 2 _ rfl
  have q3 : ∀ w', Below W.heap.size W w' → w'.cell? ⟨w.heap.size, 3, none⟩ = some (.slice A2 n k2) := hx0 3 _ rfl
  clear hx0 hx1 hx2
  have hws : W.heap.size = w.heap.size + 3 := hWs
  have hMS := MSet.made W
  have hself := Below.refl W.heap.size W
  replace hWs := hide hWs
  have hws1 : w.heap.size + 3 ≤ W.heap.size := by omega
  have hws2 : W.heap.size ≤ w.heap.size + 3 := by omega
  clear hws
  have hmm := @run_makeMap Try.prog
  go_enter Try.func10, Try.ntmps10
  go_upto_region 2 with (fail)
  have hsX : (W.alloc (.map #[] 0)).heap.size = W.heap.size + 1 := by simp
  obtain ⟨X, hXe⟩ : ∃ X, Hid (X = W.alloc (.map #[] 0)) := ⟨_, hide rfl⟩
  obtain ⟨M, hMe⟩ : ∃ M, Hid (M = W.heap.size) := ⟨_, hide rfl⟩
  obtain ⟨VB, hVe⟩ : ∃ VB, Hid (VB = w.heap.size + 1) := ⟨_, hide rfl⟩
  obtain ⟨RB, hRe⟩ : ∃ RB, Hid (RB = VB + 1) := ⟨_, hide rfl⟩
  have hbX : Below W.heap.size W X := by rw [hXe.out]; exact (Below.refl W.heap.size W).alloc (Nat.le_refl _) (.map #[] 0)
  rw [← hXe.out] at hMS hsX ⊢
  rw [← hMe.out] at hMS hsX ⊢
  rw [← hVe.out] at hV0 hR0 ⊢
  rw [← hRe.out] at hR0 ⊢
  have o1 : w.heap.size < VB := by have := hVe.out; omega
  have o2 : VB < RB := by have := hVe.out; have := hRe.out; omega
  have o3 : RB < M := by have := hRe.out; have := hMe.out; have := hVe.out; omega
  have o4 : M < X.heap.size := by omega
  replace hsX := hide hsX
  have hVX : Hid (X.heap[VB]? = some (.cells #[.int .i64 v0.kind, .int .i64 v0.num, .int .u64 v0.bits] 42 (0, 0))) := hide ((hbX.block _ (by have := hMe.out; omega)).trans hV0.out)
  have hRX : Hid (X.heap[RB]? = some (.cells #[.int .i64 0, .int .i64 0, .int .u64 0] 42 (0, 0))) := hide ((hbX.block _ (by have := hMe.out; omega)).trans hR0.out)
  have hMX : Hid (MSet X M 0 fun r => ([] : List Int).contains r) := hide (hMS.congr fun r => by simp)
  have hwX : Hid (Below w.heap.size w X) := hide (hwW.trans (hbX.mono (by omega)))
  have hon : Hid (∀ w', Only (VM VB M) X.heap.size X w' → Below w.heap.size w w') := hide (fun w' h => hwX.out.trans (h.to_below (fun k hk => by rcases hk with hk | hk <;> omega) (by omega)))
  have inX : Hid (∀ (b o : Nat) (u : Value), b < X.heap.size → b ≠ VB → b ≠ M → X.cell? ⟨b, o, none⟩ = some u → ∀ w', Only (VM VB M) X.heap.size X w' → w'.cell? ⟨b, o, none⟩ = some u) := hide (fun b o u h1 h2 h3 h4 w' h => (h.cell (p := ⟨b, o, none⟩) h1 (fun hk => by rcases hk with hk | hk; exact h2 hk; exact h3 hk)).trans h4)
  have p0 := inX.out _ _ _ (by omega) (by omega) (by omega) (q0 X hbX)
  have p1 := inX.out _ _ _ (by omega) (by omega) (by omega) (q1 X hbX)
  have p2 := inX.out _ _ _ (by omega) (by omega) (by omega) (q2 X hbX)
  have p3 := inX.out _ _ _ (by omega) (by omega) (by omega) (q3 X hbX)
  have cM : Hid (∀ (v : Opd) w', Only (VM VB M) X.heap.size X w' → Calls Try.prog 25 #[f.v (.slice A1 f.params.length k1) (.slice A2 n k2), .agg #[.int .i64 v.kind, .int .i64 v.num, .int .u64 v.bits]] w' (MakerPost f.blocks v w')) := hide (fun v w' h => maker_any f v (.slice A1 f.params.length k1) (.slice A2 n k2) w' w'.heap.size (Nat.le_refl _) (RFun.later hf ((hon.out w' h).mono hB) (Nat.le_trans hB (hon.out w' h).size)) hs)
  have hRv : Hid (∃ R, R = rootR f.blocks v0) := hide ⟨_, rfl⟩
  obtain ⟨R, hR⟩ := hRv.out
  replace hR := hide hR
  have hgo : Hid (rootGo f.blocks (N + 1) [] 0 true v0 = R) := hide (by rw [hR.out, hN.out]; rfl)
  have hv' := hide hv
  replace hs := hide hs
  replace hz := hide hz
  replace hf := hide hf
  clear hwW hbX hmm hself q0 q1 q2 q3 hV0 hR0 hMS hXe hWs hMe hVe hRe hRv hv hW
  go_wp2
  go_loopg [8, 9] (N + 1) (fun g s8 s9 wr => ∃ (met : List Int) (off : Int) (known : Bool) (v : Opd), s8 = .int .i64 off ∧ s9 = .bool known ∧ Hid (rootGo f.blocks g met off known v = R) ∧ Hid (MSet wr M met.length fun r => met.contains r) ∧
    Hid (wr.heap[VB]? = some (.cells #[.int .i64 v.kind, .int .i64 v.num, .int .u64 v.bits] 42 (0, 0))) ∧ Hid (met.Nodup ∧ ∀ r, r ∈ met → r ∈ regsM f.blocks) ∧ Hid (g + met.length = N + 1) ∧ Hid (I64 v.kind ∧ I64 v.num) ∧ Only (VM VB M) X.heap.size X wr)
  case atStart => exact ⟨[], 0, true, v0, rfl, rfl, hgo, hMX, hVX, hide ⟨List.nodup_nil, fun r h => by cases h⟩, hide rfl, hv', Only.refl _ _ _⟩
  case round =>
    clear hgo hMX hVX hv'
    obtain ⟨met, off, known, v, rfl, rfl, hgo, hms, hvb, hmet, hg, hv, hbel⟩ := hrel
    have hml : met.length ≤ N := by rw [hN.out]; exact nodup_sub_len hmet.out.1 hmet.out.2
    obtain ⟨g, hg1⟩ : ∃ g, Hid (gk = g + 1) := ⟨gk - 1, hide (by have := hg.out; omega)⟩
    rw [hg1.out] at hgo hg
    obtain ⟨y0, y1, y2⟩ := three_cells hvb.out
    have hbs := hbel.size
    go_upto_region 3 with (fail)
    go_wp2_with (fail)
    refine (cM.out v _ hbel).mono ?_
    rintro e w4 ⟨hb4, hmk⟩
    have hbel4 : Only (VM VB M) X.heap.size X w4 := hbel.then_below (Nat.le_refl _) hb4
    have hs4 := hb4.size
    have hms4 : Hid (MSet w4 M met.length fun r => met.contains r) := hide (hms.out.of_heap (hb4.block M hms.out.lt))
    have hVl : VB < wr.heap.size := by omega
    have hvb4 : Hid (w4.heap[VB]? = some (.cells #[.int .i64 v.kind, .int .i64 v.num, .int .u64 v.bits] 42 (0, 0))) := hide ((hb4.block VB hVl).trans hvb.out)
    have hMl : M < wr.heap.size := by omega
    have hRB4 : True := trivial
    clear hRB4
    have hRB : Hid (∀ w', Only (VM VB M) X.heap.size X w' → w'.heap[RB]? = some (.cells #[.int .i64 0, .int .i64 0, .int .u64 0] 42 (0, 0))) := hide (fun w' h => (h.block RB (by omega) (fun hk => by rcases hk with hk | hk <;> omega)).trans hRX.out)
    have hwRB : Hid (w.heap.size ≤ RB) := hide (by omega)
    rcases hmk with ⟨hmk, rfl⟩ | ⟨ins, bi, c, d, hmk, rfl, hrep⟩
    · rw [rootGo_none hmk] at hgo
      obtain ⟨Z, hZ, hwZ, hZs, hz⟩ := boxes1 w4 #[.int .i64 0, .int .i64 0, .int .i64 0, .int .i64 0, .int .i64 0, .slice none 0 0, .slice none 0 0] 39
      have hbelZ : Only (VM VB M) X.heap.size X Z := hbel4.then_below (Nat.le_refl _) (hwZ.mono (by omega))
      have hvbZ : Hid (Z.heap[VB]? = some (.cells #[.int .i64 v.kind, .int .i64 v.num, .int .u64 v.bits] 42 (0, 0))) := hide ((hwZ.block VB (by omega)).trans hvb4.out)
      replace hwZ := hide hwZ
      replace hZs := hide hZs
      replace hZ := hide hZ
      replace hb4 := hide hb4
      clear hz hvb4 hms4 hms hvb hbel4 hbel y0 y1 y2 cM inX
      go_upto_region 4 with (fail)
      rw [hZ.out]
      clear hZ
      cases known with
      | true =>
        have hRZ : Hid (Z.heap[RB]? = some (.cells #[.int .i64 0, .int .i64 0, .int .u64 0] 42 (0, 0))) := hide (hRB.out Z hbelZ)
        obtain ⟨u0, u1, u2⟩ := three_cells hvbZ.out
        have g0 := one_free (j := 0) hRZ.out
        have g1 := one_free (j := 1) hRZ.out
        have g2 := one_free (j := 2) hRZ.out
        obtain ⟨s0, s1, s2⟩ := three_cells hRZ.out
        have hfin := hide (set_heap (j := 2) (v := .int .u64 v.bits) (set_heap (j := 1) (v := .int .i64 v.num) (set_heap (j := 0) (v := .int .i64 v.kind) hRZ.out)))
        have hbf := hide ((((hon.out Z hbelZ).setCell (p := ⟨RB, 0, none⟩) hwRB.out (.int .i64 v.kind)).setCell (p := ⟨RB, 1, none⟩) hwRB.out (.int .i64 v.num)).setCell (p := ⟨RB, 2, none⟩) hwRB.out (.int .u64 v.bits))
        have hroot : Hid (rootS f.blocks v0 = (v, off, true)) := hide (by
          unfold rootS
          rw [← hR.out, ← hgo.out]
          rfl)
        go_wp2
        refine bodyPost_ret (v := .tuple #[.agg #[.int .i64 v.kind, .int .i64 v.num, .int .u64 v.bits], .int .i64 off, .bool true]) ?_ rfl ?_
        · obtain ⟨t0, t1, t2⟩ := three_cells hfin.out
          simp [results, Try.results10, go_sem, t0, t1, t2]
        · unfold RootPost
          rw [hroot.out]
          exact ⟨rfl, hv.out, hbf.out⟩
      | false =>
        have hRZ : Hid (Z.heap[RB]? = some (.cells #[.int .i64 0, .int .i64 0, .int .u64 0] 42 (0, 0))) := hide (hRB.out Z hbelZ)
        obtain ⟨u0, u1, u2⟩ := three_cells hvbZ.out
        have g0 := one_free (j := 0) hRZ.out
        have g1 := one_free (j := 1) hRZ.out
        have g2 := one_free (j := 2) hRZ.out
        obtain ⟨s0, s1, s2⟩ := three_cells hRZ.out
        have hfin := hide (set_heap (j := 2) (v := .int .u64 v.bits) (set_heap (j := 1) (v := .int .i64 v.num) (set_heap (j := 0) (v := .int .i64 v.kind) hRZ.out)))
        have hbf := hide ((((hon.out Z hbelZ).setCell (p := ⟨RB, 0, none⟩) hwRB.out (.int .i64 v.kind)).setCell (p := ⟨RB, 1, none⟩) hwRB.out (.int .i64 v.num)).setCell (p := ⟨RB, 2, none⟩) hwRB.out (.int .u64 v.bits))
        have hroot : Hid (rootS f.blocks v0 = (v, 0, false)) := hide (by
          unfold rootS
          rw [← hR.out, ← hgo.out]
          rfl)
        go_wp2
        refine bodyPost_ret (v := .tuple #[.agg #[.int .i64 v.kind, .int .i64 v.num, .int .u64 v.bits], .int .i64 0, .bool false]) ?_ rfl ?_
        · obtain ⟨t0, t1, t2⟩ := three_cells hfin.out
          simp [results, Try.results10, go_sem, t0, t1, t2]
        · unfold RootPost
          rw [hroot.out]
          exact ⟨rfl, hv.out, hbf.out⟩
    · obtain ⟨a1, a2, e9, ha, hto, hok⟩ := id hrep
      simp only [List.cons.injEq, and_true, true_and] at e9
      obtain ⟨rfl, rfl⟩ := e9
      obtain ⟨A5, k5, h5, hm5, ga5⟩ := Rp.slice_open ha
      obtain ⟨A6, k6, h6, -, -⟩ := Rp.slice1_open hto
      cases h5; cases h6
      obtain ⟨hvk, hmem, hreg⟩ := makerS_mem hmk
      obtain ⟨Z, hZ, hwZ, hZs, hz⟩ := boxes1 w4 #[.int .i64 ins.op, .int .i64 ins.reg, .int .i64 ins.ty, .int .i64 ins.num, .int .i64 ins.flags, .slice A5 ins.args.length k5, .slice A6 ins.to.length k6] 39
      have hbelZ : Only (VM VB M) X.heap.size X Z := hbel4.then_below (Nat.le_refl _) (hwZ.mono (by omega))
      have hvbZ : Hid (Z.heap[VB]? = some (.cells #[.int .i64 v.kind, .int .i64 v.num, .int .u64 v.bits] 42 (0, 0))) := hide ((hwZ.block VB (by omega)).trans hvb4.out)
      have hmsZ : Hid (MSet Z M met.length fun r => met.contains r) := hide (hms4.out.of_heap (hwZ.block M hms4.out.lt))
      have hselfZ := Below.refl Z.heap.size Z
      have i0 := hz 0 _ rfl Z hselfZ
      have i5 := hz 5 _ rfl Z hselfZ
      have hZl : w4.heap.size < Z.heap.size := by omega
      replace ga5 := hide ga5
      replace hwZ := hide hwZ
      replace hZs := hide hZs
      replace hZ := hide hZ
      replace hb4 := hide hb4
      replace hmk := hide hmk
      replace hmem := hide hmem
      replace hreg := hide hreg
      replace hvk := hide hvk
      have ha2 := hide ha
      have hmsW := hms4
      clear hz hvb4 hms4 hms hvb hbel y0 y1 y2 cM hselfZ ha hto hok hrep
      go_upto_region 4 with (fail)
      rw [hZ.out]
      clear hZ
      by_cases hop : ins.op = 29
      · have hopB : (ins.op != 29) = false := by rw [hop]; rfl
        by_cases hlen : ins.args.length < 2
        · have hlen2 : (ins.args.length : Int) < 2 := by omega
          have hgo9 := hgo.out
          rw [rootGo_stop hmk.out (gepOf_short hlen)] at hgo9
          replace hgo := hide hgo9
          clear hgo9
          replace hop := hide hop
          cases known with
          | true =>
            have hRZ : Hid (Z.heap[RB]? = some (.cells #[.int .i64 0, .int .i64 0, .int .u64 0] 42 (0, 0))) := hide (hRB.out Z hbelZ)
            obtain ⟨u0, u1, u2⟩ := three_cells hvbZ.out
            have g0 := one_free (j := 0) hRZ.out
            have g1 := one_free (j := 1) hRZ.out
            have g2 := one_free (j := 2) hRZ.out
            obtain ⟨s0, s1, s2⟩ := three_cells hRZ.out
            have hfin := hide (set_heap (j := 2) (v := .int .u64 v.bits) (set_heap (j := 1) (v := .int .i64 v.num) (set_heap (j := 0) (v := .int .i64 v.kind) hRZ.out)))
            have hbf := hide ((((hon.out Z hbelZ).setCell (p := ⟨RB, 0, none⟩) hwRB.out (.int .i64 v.kind)).setCell (p := ⟨RB, 1, none⟩) hwRB.out (.int .i64 v.num)).setCell (p := ⟨RB, 2, none⟩) hwRB.out (.int .u64 v.bits))
            have hroot : Hid (rootS f.blocks v0 = (v, off, true)) := hide (by
              unfold rootS
              rw [← hR.out, ← hgo.out]
              rfl)
            go_wp2
            refine bodyPost_ret (v := .tuple #[.agg #[.int .i64 v.kind, .int .i64 v.num, .int .u64 v.bits], .int .i64 off, .bool true]) ?_ rfl ?_
            · obtain ⟨t0, t1, t2⟩ := three_cells hfin.out
              simp [results, Try.results10, go_sem, t0, t1, t2]
            · unfold RootPost
              rw [hroot.out]
              exact ⟨rfl, hv.out, hbf.out⟩
          | false =>
            have hRZ : Hid (Z.heap[RB]? = some (.cells #[.int .i64 0, .int .i64 0, .int .u64 0] 42 (0, 0))) := hide (hRB.out Z hbelZ)
            obtain ⟨u0, u1, u2⟩ := three_cells hvbZ.out
            have g0 := one_free (j := 0) hRZ.out
            have g1 := one_free (j := 1) hRZ.out
            have g2 := one_free (j := 2) hRZ.out
            obtain ⟨s0, s1, s2⟩ := three_cells hRZ.out
            have hfin := hide (set_heap (j := 2) (v := .int .u64 v.bits) (set_heap (j := 1) (v := .int .i64 v.num) (set_heap (j := 0) (v := .int .i64 v.kind) hRZ.out)))
            have hbf := hide ((((hon.out Z hbelZ).setCell (p := ⟨RB, 0, none⟩) hwRB.out (.int .i64 v.kind)).setCell (p := ⟨RB, 1, none⟩) hwRB.out (.int .i64 v.num)).setCell (p := ⟨RB, 2, none⟩) hwRB.out (.int .u64 v.bits))
            have hroot : Hid (rootS f.blocks v0 = (v, 0, false)) := hide (by
              unfold rootS
              rw [← hR.out, ← hgo.out]
              rfl)
            go_wp2
            refine bodyPost_ret (v := .tuple #[.agg #[.int .i64 v.kind, .int .i64 v.num, .int .u64 v.bits], .int .i64 0, .bool false]) ?_ rfl ?_
            · obtain ⟨t0, t1, t2⟩ := three_cells hfin.out
              simp [results, Try.results10, go_sem, t0, t1, t2]
            · unfold RootPost
              rw [hroot.out]
              exact ⟨rfl, hv.out, hbf.out⟩
        · obtain ⟨a, b, rest, hargs⟩ : ∃ a b rest, ins.args = a :: b :: rest := by
            match h : ins.args with
            | [] => rw [h] at hlen; simp at hlen
            | [x] => rw [h] at hlen; simp at hlen
            | a :: b :: rest => exact ⟨a, b, rest, rfl⟩
          have hgep : Hid (gepOf ins = some (a, b)) := hide (gepOf_args hop hargs)
          have hlen2 : ¬ (ins.args.length : Int) < 2 := by omega
          have hlook := hmsZ.out.look hv.out.2
          obtain ⟨u0, u1, u2⟩ := three_cells hvbZ.out
          replace hop := hide hop
          cases hc : met.contains v.num with
          | true =>
            rw [hc, if_pos rfl] at hlook
            have hgo9 := hgo.out
            rw [rootGo_met hmk.out hgep.out hc] at hgo9
            replace hgo := hide hgo9
            replace hc := hide hc
            clear hgo9 u0 u1 u2
            obtain ⟨u0, u1, u2⟩ := three_cells hvbZ.out
            have hRZ : Hid (Z.heap[RB]? = some (.cells #[.int .i64 0, .int .i64 0, .int .u64 0] 42 (0, 0))) := hide (hRB.out Z hbelZ)
            obtain ⟨u0, u1, u2⟩ := three_cells hvbZ.out
            have g0 := one_free (j := 0) hRZ.out
            have g1 := one_free (j := 1) hRZ.out
            have g2 := one_free (j := 2) hRZ.out
            obtain ⟨s0, s1, s2⟩ := three_cells hRZ.out
            have hfin := hide (set_heap (j := 2) (v := .int .u64 v.bits) (set_heap (j := 1) (v := .int .i64 v.num) (set_heap (j := 0) (v := .int .i64 v.kind) hRZ.out)))
            have hbf := hide ((((hon.out Z hbelZ).setCell (p := ⟨RB, 0, none⟩) hwRB.out (.int .i64 v.kind)).setCell (p := ⟨RB, 1, none⟩) hwRB.out (.int .i64 v.num)).setCell (p := ⟨RB, 2, none⟩) hwRB.out (.int .u64 v.bits))
            have hroot : Hid (rootS f.blocks v0 = (v, 0, false)) := hide (by
              unfold rootS
              rw [← hR.out, ← hgo.out]
              rfl)
            go_wp2
            refine bodyPost_ret (v := .tuple #[.agg #[.int .i64 v.kind, .int .i64 v.num, .int .u64 v.bits], .int .i64 0, .bool false]) ?_ rfl ?_
            · obtain ⟨t0, t1, t2⟩ := three_cells hfin.out
              simp [results, Try.results10, go_sem, t0, t1, t2]
            · unfold RootPost
              rw [hroot.out]
              exact ⟨rfl, hv.out, hbf.out⟩
          | false =>
            rw [hc, if_neg (by decide)] at hlook
            obtain ⟨Z2, hrun2, hm2, hg2⟩ := MSet.store hmsZ.out (by unfold maxLen; omega) hv.out.2
            have hbelZ2 : Only (VM VB M) X.heap.size X Z2 := hbelZ.next (Nat.le_refl _) (hg2.more (fun k _ hk => Or.inr hk))
            have hselfM : Only (fun k => k = M) Z.heap.size Z Z := Only.refl _ _ _
            obtain ⟨A9, k9, h9, -, gb9⟩ := Rp.slice_at ha2.out
            cases h9
            obtain ⟨b5, o5, rfl, hb5, he5⟩ := gb9 (by rw [hargs]; simp)
            obtain ⟨_, _, ⟨rfl, hIa⟩, hata⟩ := he5 0 a (by rw [hargs]; rfl)
            obtain ⟨_, _, ⟨rfl, -⟩, hatb⟩ := he5 1 b (by rw [hargs]; rfl)
            have hkI : Hid (I64 a.kind ∧ I64 a.num) := hide hIa
            have hb5M : b5 ≠ M := fun e => by
              have h1 := hata 0 _ rfl
              rw [e, mset_cell hmsW.out] at h1
              cases h1
            have inM : ∀ (b o : Nat) (u : Value), b < w4.heap.size → b ≠ M → w4.cell? ⟨b, o, none⟩ = some u → ∀ w', Only (fun k => k = M) Z.heap.size Z w' → w'.cell? ⟨b, o, none⟩ = some u := fun b o u h1 h2 h3 w' h => (h.cell (p := ⟨b, o, none⟩) (by show b < Z.heap.size; omega) h2).trans ((hwZ.out.cell (p := ⟨b, o, none⟩) h1).trans h3)
            have x0 := inM _ _ _ hb5 hb5M (hata 0 _ rfl)
            have x1 := inM _ _ _ hb5 hb5M (hata 1 _ rfl)
            have x2 := inM _ _ _ hb5 hb5M (hata 2 _ rfl)
            have z0 := inM _ _ _ hb5 hb5M (hatb 0 _ rfl)
            have z2 := inM _ _ _ hb5 hb5M (hatb 2 _ rfl)
            simp only [Nat.zero_mul, Nat.one_mul, Nat.add_zero] at x0 x1 x2 z0 z2
            have i5' : ∀ w', Only (fun k => k = M) Z.heap.size Z w' → w'.cell? ⟨w4.heap.size, 5, none⟩ = some (.slice (some ⟨b5, o5, none⟩) ins.args.length k5) := fun w' h => (h.cell (p := ⟨w4.heap.size, 5, none⟩) hZl (by show ¬ w4.heap.size = M; omega)).trans i5
            have hvb2 : Hid (Z2.heap[VB]? = some (.cells #[.int .i64 v.kind, .int .i64 v.num, .int .u64 v.bits] 42 (0, 0))) := hide ((hg2.block VB (by omega) (by show ¬ VB = M; omega)).trans hvbZ.out)
            obtain ⟨t0, t1, t2⟩ := three_cells hvb2.out
            have f0 := one_free (j := 0) hvb2.out
            have f1 := one_free (j := 1) hvb2.out
            have f2 := one_free (j := 2) hvb2.out
            have hl2 : 2 ≤ ins.args.length := by omega
            have hvb3 := hide (set_heap (j := 2) (v := .int .u64 a.bits) (set_heap (j := 1) (v := .int .i64 a.num) (set_heap (j := 0) (v := .int .i64 a.kind) hvb2.out)))
            have hbel3 := hide (((hbelZ2.setCell (p := ⟨VB, 0, none⟩) (.inl (Or.inl rfl)) (.int .i64 a.kind)).setCell (p := ⟨VB, 1, none⟩) (.inl (Or.inl rfl)) (.int .i64 a.num)).setCell (p := ⟨VB, 2, none⟩) (.inl (Or.inl rfl)) (.int .u64 a.bits))
            have hms3 : Hid (MSet (((Z2.setCell ⟨VB, 0, none⟩ (.int .i64 a.kind)).setCell ⟨VB, 1, none⟩ (.int .i64 a.num)).setCell ⟨VB, 2, none⟩ (.int .u64 a.bits)) M (v.num :: met).length fun r => (v.num :: met).contains r) := hide (by
              have h1 := hm2.congr (q' := fun r => (v.num :: met).contains r) (fun r => by rw [List.contains_cons, Bool.or_comm]; congr 1; rw [Bool.eq_iff_iff, beq_iff_eq, beq_iff_eq]; exact eq_comm)
              exact h1.of_heap (set_far (set_far (set_far rfl (by omega)) (by omega)) (by omega)))
            have hmet3 : Hid ((v.num :: met).Nodup ∧ ∀ r, r ∈ (v.num :: met) → r ∈ regsM f.blocks) := hide ⟨List.nodup_cons.2 ⟨(fun h => by rw [List.contains_iff_mem.2 h] at hc; cases hc), hmet.out.1⟩, fun r hr => by
              rcases List.mem_cons.1 hr with rfl | hr
              · exact List.mem_map.2 ⟨ins, hmem.out, hreg.out⟩
              · exact hmet.out.2 r hr⟩
            have hg3 : Hid (g + (v.num :: met).length = N + 1) := hide (by have := hg.out; simp only [List.length_cons]; omega)
            have hgo9 := hgo.out
            rw [rootGo_step hmk.out hgep.out hc] at hgo9
            have hgk : Hid (g < gk) := hide (by have := hg1.out; omega)
            have hself2 := hide hg2
            replace hc := hide hc
            clear hm2 hIa hata hatb he5 gb9 hb5 inM hbelZ2 hbelZ p0 p1 p2 p3
            by_cases hbk : b.kind = 2
            · have hbk1 : (b.kind == 2) = true := by rw [hbk]; rfl
              rw [if_pos hbk, decide_eq_true hbk, Bool.and_true] at hgo9
              replace hgo := hide hgo9
              clear hgo9
              replace hbk := hide hbk
              replace hargs := hide hargs
              go_wp2
              go_roundg g
              case measure => exact hgk.out
              case rel => exact ⟨v.num :: met, offAdd off b.bits, known, a, rfl, rfl, hgo, hms3, hvb3, hmet3, hg3, hkI, hbel3.out⟩
            · have hbk1 : (b.kind == 2) = false := by rw [beq_eq_false_iff_ne]; exact hbk
              rw [if_neg hbk, decide_eq_false hbk, Bool.and_false] at hgo9
              replace hgo := hide hgo9
              clear hgo9
              replace hbk := hide hbk
              replace hargs := hide hargs
              go_wp2
              go_roundg g
              case measure => exact hgk.out
              case rel => exact ⟨v.num :: met, off, false, a, rfl, rfl, hgo, hms3, hvb3, hmet3, hg3, hkI, hbel3.out⟩
      · have hopB : (ins.op != 29) = true := by rw [bne_iff_ne]; exact hop
        have hgo9 := hgo.out
        rw [rootGo_stop hmk.out (gepOf_op hop)] at hgo9
        replace hgo := hide hgo9
        clear hgo9
        replace hop := hide hop
        cases known with
        | true =>
          have hRZ : Hid (Z.heap[RB]? = some (.cells #[.int .i64 0, .int .i64 0, .int .u64 0] 42 (0, 0))) := hide (hRB.out Z hbelZ)
          obtain ⟨u0, u1, u2⟩ := three_cells hvbZ.out
          have g0 := one_free (j := 0) hRZ.out
          have g1 := one_free (j := 1) hRZ.out
          have g2 := one_free (j := 2) hRZ.out
          obtain ⟨s0, s1, s2⟩ := three_cells hRZ.out
          have hfin := hide (set_heap (j := 2) (v := .int .u64 v.bits) (set_heap (j := 1) (v := .int .i64 v.num) (set_heap (j := 0) (v := .int .i64 v.kind) hRZ.out)))
          have hbf := hide ((((hon.out Z hbelZ).setCell (p := ⟨RB, 0, none⟩) hwRB.out (.int .i64 v.kind)).setCell (p := ⟨RB, 1, none⟩) hwRB.out (.int .i64 v.num)).setCell (p := ⟨RB, 2, none⟩) hwRB.out (.int .u64 v.bits))
          have hroot : Hid (rootS f.blocks v0 = (v, off, true)) := hide (by
            unfold rootS
            rw [← hR.out, ← hgo.out]
            rfl)
          go_wp2
          refine bodyPost_ret (v := .tuple #[.agg #[.int .i64 v.kind, .int .i64 v.num, .int .u64 v.bits], .int .i64 off, .bool true]) ?_ rfl ?_
          · obtain ⟨t0, t1, t2⟩ := three_cells hfin.out
            simp [results, Try.results10, go_sem, t0, t1, t2]
          · unfold RootPost
            rw [hroot.out]
            exact ⟨rfl, hv.out, hbf.out⟩
        | false =>
          have hRZ : Hid (Z.heap[RB]? = some (.cells #[.int .i64 0, .int .i64 0, .int .u64 0] 42 (0, 0))) := hide (hRB.out Z hbelZ)
          obtain ⟨u0, u1, u2⟩ := three_cells hvbZ.out
          have g0 := one_free (j := 0) hRZ.out
          have g1 := one_free (j := 1) hRZ.out
          have g2 := one_free (j := 2) hRZ.out
          obtain ⟨s0, s1, s2⟩ := three_cells hRZ.out
          have hfin := hide (set_heap (j := 2) (v := .int .u64 v.bits) (set_heap (j := 1) (v := .int .i64 v.num) (set_heap (j := 0) (v := .int .i64 v.kind) hRZ.out)))
          have hbf := hide ((((hon.out Z hbelZ).setCell (p := ⟨RB, 0, none⟩) hwRB.out (.int .i64 v.kind)).setCell (p := ⟨RB, 1, none⟩) hwRB.out (.int .i64 v.num)).setCell (p := ⟨RB, 2, none⟩) hwRB.out (.int .u64 v.bits))
          have hroot : Hid (rootS f.blocks v0 = (v, 0, false)) := hide (by
            unfold rootS
            rw [← hR.out, ← hgo.out]
            rfl)
          go_wp2
          refine bodyPost_ret (v := .tuple #[.agg #[.int .i64 v.kind, .int .i64 v.num, .int .u64 v.bits], .int .i64 0, .bool false]) ?_ rfl ?_
          · obtain ⟨t0, t1, t2⟩ := three_cells hfin.out
            simp [results, Try.results10, go_sem, t0, t1, t2]
          · unfold RootPost
            rw [hroot.out]
            exact ⟨rfl, hv.out, hbf.out⟩
end Go.Proofs.Ytamjcafjdioidaa
