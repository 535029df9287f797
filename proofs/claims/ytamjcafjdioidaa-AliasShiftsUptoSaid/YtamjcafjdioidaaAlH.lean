/- alias.Asked. No condition but sizes. | lathelaw18.lives, lathelaw18.Long. No condition but a bound on the function's size. -/
import Derived.Test.YtamjcafjdioidaaAlE
namespace Go.Proofs.Ytamjcafjdioidaa
open Go.RowKit
set_option linter.unusedSimpArgs false
set_option linter.unusedVariables false

abbrev rtC (r : Rt) : Array Value := #[.int .i64 r.v.kind, .int .i64 r.v.num, .int .u64 r.v.bits, .int .i64 r.off, .bool r.known, .bool r.alloca, .bool r.stable]
theorem set7z {w : World} {g : Nat} {x0 x1 x2 x3 x4 x5 x6 : Value} {t : TypeId} (h : w.heap[g]? = some (.cells #[.int .i64 0, .int .i64 0, .int .u64 0, .int .i64 0, .bool false, .bool false, .bool false] t (0, 0))) :
    (((((((w.setCell ⟨g, 0, none⟩ x0).setCell ⟨g, 1, none⟩ x1).setCell ⟨g, 2, none⟩ x2).setCell ⟨g, 3, none⟩ x3).setCell ⟨g, 4, none⟩ x4).setCell ⟨g, 5, none⟩ x5).setCell ⟨g, 6, none⟩ x6).heap[g]? = some (.cells #[x0, x1, x2, x3, x4, x5, x6] t (0, 0)) :=
  set_heap (j := 6) (set_heap (j := 5) (set_heap (j := 4) (set_heap (j := 3) (set_heap (j := 2) (set_heap (j := 1) (set_heap (j := 0) h))))))
theorem setCell_sz (w : World) (p : Addr) (v : Value) : (w.setCell p v).heap.size = w.heap.size := by simp [World.setCell]
theorem alloc_sz' (w : World) (o : Obj) : (w.alloc o).heap.size = w.heap.size + 1 := by simp
theorem drew_sz' (w : World) : w.drew.heap.size = w.heap.size := rfl
theorem of_drew' {w : World} {g : Nat} {x : Option Obj} (h : w.heap[g]? = x) : w.drew.heap[g]? = x := h
theorem alloc_top1' (w : World) (o o' : Obj) : ((w.alloc o).alloc o').heap[w.heap.size + 1]? = some o' := by have := box_top (w.alloc o) o'; simpa using this
theorem alloc_top7 (w : World) (p0 p1 p2 p3 p4 p5 p6 : Addr) (x0 x1 x2 x3 x4 x5 x6 : Value) (o : Obj) : ((((((((w.setCell p0 x0).setCell p1 x1).setCell p2 x2).setCell p3 x3).setCell p4 x4).setCell p5 x5).setCell p6 x6).alloc o).heap[w.heap.size]? = some o := by
  have := box_top (((((((w.setCell p0 x0).setCell p1 x1).setCell p2 x2).setCell p3 x3).setCell p4 x4).setCell p5 x5).setCell p6 x6) o
  simpa only [setCell_sz] using this
theorem bytes_any (t : Int) (w : World) : Calls Try.prog 29 #[.int .i64 t] w fun e w' => e = .returned (.int .u64 (bytesS t)) ∧ w = w' := by
  by_cases h : t = 65
  · have h1 : (t == 65) = true := by rw [h]; rfl
    have hb : Hid (bytesS t = 8) := hide (by unfold bytesS; rw [if_pos h])
    replace h := hide h
    go_enter Try.func29, Try.ntmps29
    go_wp2
    go_ret
    exact ⟨ret_int hb.out.symm, rfl⟩
  · have h1 : (t == 65) = false := by rw [beq_eq_false_iff_ne]; exact h
    by_cases h2 : t ≥ 1
    · by_cases h3 : t ≤ 64
      · have hb : Hid (bytesS t = (t + 7) / 8) := hide (by unfold bytesS; rw [if_neg h, if_pos ⟨h2, h3⟩])
        replace h := hide h
        go_enter Try.func29, Try.ntmps29
        go_wp2
        go_ret
        exact ⟨ret_int hb.out.symm, rfl⟩
      · have hb : Hid (bytesS t = 0) := hide (by unfold bytesS; rw [if_neg h, if_neg (fun h => h3 h.2)])
        replace h := hide h
        go_enter Try.func29, Try.ntmps29
        go_wp2
        go_ret
        exact ⟨ret_int hb.out.symm, rfl⟩
    · have hb : Hid (bytesS t = 0) := hide (by unfold bytesS; rw [if_neg h, if_neg (fun h => h2 h.1)])
      replace h := hide h
      go_enter Try.func29, Try.ntmps29
      go_wp2
      go_ret
      exact ⟨ret_int hb.out.symm, rfl⟩
theorem bcell9 {W w1 : World} (hb : Below W.heap.size W w1) : (∀ b o, b < W.heap.size → w1.cell? ⟨b, o, none⟩ = W.cell? ⟨b, o, none⟩) ∧ (∀ b o, b < W.heap.size → w1.frozen? ⟨b, o, none⟩ = W.frozen? ⟨b, o, none⟩) :=
  ⟨fun b o h => hb.cell (p := ⟨b, o, none⟩) h, fun b o h => hb.frozen (p := ⟨b, o, none⟩) h⟩
def RetV (v : Value) (w : World) (e : Ending) (w' : World) : Prop := e = .returned v ∧ Below w.heap.size w w'
theorem none_any (r : Rt) (w : World) : Calls Try.prog 27 #[rtV r] w (RetB (noneS r) w) := by
  obtain ⟨W, hW, hwW, hWs, hx⟩ := boxes1 w (rtC r) 65
  have x0 := hx 0 _ rfl W (Below.refl _ _)
  replace hWs := hide hWs
  replace hwW := hide hwW
  clear hx
  by_cases h4 : r.v.kind = 4
  · have g : (r.v.kind == 4) = true := by rw [h4]; rfl
    have hb : Hid (noneS r = true) := hide (by unfold noneS; simp [g])
    replace h4 := hide h4
    go_enter Try.func27, Try.ntmps27
    go_wp2
    go_ret
    exact ⟨ret_bool hb.out.symm, hwW.out⟩
  · have g : (r.v.kind == 4) = false := by rw [beq_eq_false_iff_ne]; exact h4
    have hb : Hid (noneS r = (r.v.kind == 3)) := hide (by unfold noneS; simp [g])
    replace h4 := hide h4
    go_enter Try.func27, Try.ntmps27
    go_wp2
    go_ret
    exact ⟨ret_bool hb.out.symm, hwW.out⟩
theorem obj_any (r : Rt) (w : World) : Calls Try.prog 28 #[rtV r] w (RetB (objS r) w) := by
  obtain ⟨W, hW, hwW, hWs, hx⟩ := boxes1 w (rtC r) 65
  have x0 := hx 0 _ rfl W (Below.refl _ _)
  have x5 := hx 5 _ rfl W (Below.refl _ _)
  replace hWs := hide hWs
  replace hwW := hide hwW
  clear hx
  by_cases h4 : r.v.kind = 5
  · have g : (r.v.kind == 5) = true := by rw [h4]; rfl
    have hb : Hid (objS r = true) := hide (by unfold objS; simp [g])
    replace h4 := hide h4
    go_enter Try.func28, Try.ntmps28
    go_wp2
    go_ret
    exact ⟨ret_bool hb.out.symm, hwW.out⟩
  · have g : (r.v.kind == 5) = false := by rw [beq_eq_false_iff_ne]; exact h4
    have hb : Hid (objS r = r.alloca) := hide (by unfold objS; simp [g])
    replace h4 := hide h4
    go_enter Try.func28, Try.ntmps28
    go_wp2
    go_ret
    exact ⟨ret_bool hb.out.symm, hwW.out⟩
theorem apart_eq (x y : Int) : IntKind.u64.wrap (wrap64 (y - x)) = apartS x y := by
  unfold apartS wrap64
  simp only [IntKind.wrap, IntKind.bits, IntKind.signed]
  simp
  try omega
theorem apart_range (x y : Int) : 0 ≤ apartS x y ∧ apartS x y < 18446744073709551616 := by unfold apartS; omega
theorem bytes_range (t : Int) : 0 ≤ bytesS t ∧ bytesS t ≤ 8 := by unfold bytesS; split; omega; split <;> omega
theorem neg_wrap {D : Int} (h0 : 0 ≤ D) (h1 : D < 18446744073709551616) (h2 : D ≠ 0) : IntKind.u64.wrap (-D) = 18446744073709551616 - D := by
  simp only [IntKind.wrap, IntKind.bits, IntKind.signed]
  simp
  try omega
theorem opd_ne {a b : Opd} (h : a ≠ b) : a.kind ≠ b.kind ∨ a.num ≠ b.num ∨ a.bits ≠ b.bits := by
  by_cases h1 : a.kind = b.kind
  · by_cases h2 : a.num = b.num
    · by_cases h3 : a.bits = b.bits
      · exact (h (by cases a; cases b; simp only at h1 h2 h3; rw [h1, h2, h3])).elim
      · exact .inr (.inr h3)
    · exact .inr (.inl h2)
  · exact .inl h1
def RetI (r : Rt) (w : World) (e : Ending) (w' : World) : Prop := e = .returned (rtV r) ∧ I64 r.v.num ∧ Below w.heap.size w w'
def AskPair (W : World) (A B : Rt) (s t : Value) (w : World) : Prop := ∃ na nb, s = .pointer (some ⟨na, 0, none⟩) ∧ t = .pointer (some ⟨nb, 0, none⟩) ∧ w.heap[na]? = some (.cells (rtC A) 65 (0, 0)) ∧ w.heap[nb]? = some (.cells (rtC B) 65 (0, 0)) ∧ I64 A.v.num ∧ I64 B.v.num ∧ Below W.heap.size W w
set_option maxRecDepth 100000 in
set_option maxHeartbeats 12800000 in
theorem asked_any (f : Fun) (p q : Opd) (t u : Int) (hp : I64 p.kind ∧ I64 p.num) (hq : I64 q.kind ∧ I64 q.num) (c1 c2 : Value) (w : World) (B : Nat) (hB : B ≤ w.heap.size) (hf : RFun.rep w B [.string f.name, c1, .int .i64 f.ret, c2] f) (hz : funSz f ≤ 2000000) :
    Calls Try.prog 11 #[f.v c1 c2, .agg #[.int .i64 p.kind, .int .i64 p.num, .int .u64 p.bits], .int .i64 t, .agg #[.int .i64 q.kind, .int .i64 q.num, .int .u64 q.bits], .int .i64 u] w (RetV (.int .i64 (askS f.params.length f.blocks p t q u)) w) := by
  obtain ⟨hpp, hb⟩ := fun_open (RFun.later hf (Below.refl _ _) hB)
  obtain ⟨A1, k1, h1, hnp, -⟩ := Rp.slice1_open hpp
  obtain ⟨A2, k2, h2, hm2, -⟩ := Rp.slice1_open hb
  cases h1; cases h2
  clear hpp hb
  obtain ⟨n, hn⟩ : ∃ n, Hid (n = f.blocks.length) := ⟨_, hide rfl⟩
  obtain ⟨np, hnpe⟩ : ∃ np, Hid (np = f.params.length) := ⟨_, hide rfl⟩
  rw [← hn.out] at hf hm2 ⊢
  rw [← hnpe.out] at hf hnp ⊢
  obtain ⟨A, hA⟩ : ∃ A, Hid (A = ofS np f.blocks p) := ⟨_, hide rfl⟩
  obtain ⟨Bt, hBt⟩ : ∃ Bt, Hid (Bt = ofS np f.blocks q) := ⟨_, hide rfl⟩
  obtain ⟨W, hW, hwW, hWs, hx0, hx1, hx2⟩ := boxes3 w #[.string f.name, .slice A1 np k1, .int .i64 f.ret, .slice A2 n k2] #[.int .i64 p.kind, .int .i64 p.num, .int .u64 p.bits] #[.int .i64 q.kind, .int .i64 q.num, .int .u64 q.bits] 32 42 42
  have q0 : ∀ w', Below W.heap.size W w' → w'.cell? ⟨w.heap.size, 0, none⟩ = some (.string f.name) := hx0 0 _ rfl
  have q1 : ∀ w', Below W.heap.size W w' → w'.cell? ⟨w.heap.size, 1, none⟩ = some (.slice A1 np k1) := hx0 1 _ rfl
  have q2 : ∀ w', Below W.heap.size W w' → w'.cell? ⟨w.heap.size, 2, none⟩ = some (.int .i64 f.ret) := hx0 2 _ rfl
  have q3 : ∀ w', Below W.heap.size W w' → w'.cell? ⟨w.heap.size, 3, none⟩ = some (.slice A2 n k2) := hx0 3 _ rfl
  have r0 : ∀ w', Below W.heap.size W w' → w'.cell? ⟨w.heap.size + 1, 0, none⟩ = some (.int .i64 p.kind) := hx1 0 _ rfl
  have r1 : ∀ w', Below W.heap.size W w' → w'.cell? ⟨w.heap.size + 1, 1, none⟩ = some (.int .i64 p.num) := hx1 1 _ rfl
  have r2 : ∀ w', Below W.heap.size W w' → w'.cell? ⟨w.heap.size + 1, 2, none⟩ = some (.int .u64 p.bits) := hx1 2 _ rfl
  have s0 : ∀ w', Below W.heap.size W w' → w'.cell? ⟨w.heap.size + 1 + 1, 0, none⟩ = some (.int .i64 q.kind) := hx2 0 _ rfl
  have s1 : ∀ w', Below W.heap.size W w' → w'.cell? ⟨w.heap.size + 1 + 1, 1, none⟩ = some (.int .i64 q.num) := hx2 1 _ rfl
  have s2 : ∀ w', Below W.heap.size W w' → w'.cell? ⟨w.heap.size + 1 + 1, 2, none⟩ = some (.int .u64 q.bits) := hx2 2 _ rfl
  clear hx0 hx1 hx2
  have hws : w.heap.size ≤ W.heap.size := by omega
  replace hWs := hide hWs
  have hself := Below.refl W.heap.size W
  have hF : Hid (∀ w', Below W.heap.size W w' → RFun.rep w' w'.heap.size [.string f.name, .slice A1 np k1, .int .i64 f.ret, .slice A2 n k2] f) := hide (fun w' h => RFun.later hf ((hwW.trans (h.mono hws)).mono hB) (Nat.le_trans hB (hwW.trans (h.mono hws)).size))
  have cA : Hid (∀ w', Below W.heap.size W w' → Calls Try.prog 26 #[f.v (.slice A1 np k1) (.slice A2 n k2), .agg #[.int .i64 p.kind, .int .i64 p.num, .int .u64 p.bits]] w' (RetI A w')) := hide (fun w' h => by
    have := of_any f p hp (.slice A1 np k1) (.slice A2 n k2) w' w'.heap.size (Nat.le_refl _) (hF.out w' h) hz
    refine this.mono ?_
    rintro e w'' ⟨h1, h2, h3⟩
    rw [← hnpe.out, ← hA.out] at h1 h2
    exact ⟨h1, h2.2, h3⟩)
  have cB : Hid (∀ w', Below W.heap.size W w' → Calls Try.prog 26 #[f.v (.slice A1 np k1) (.slice A2 n k2), .agg #[.int .i64 q.kind, .int .i64 q.num, .int .u64 q.bits]] w' (RetI Bt w')) := hide (fun w' h => by
    have := of_any f q hq (.slice A1 np k1) (.slice A2 n k2) w' w'.heap.size (Nat.le_refl _) (hF.out w' h) hz
    refine this.mono ?_
    rintro e w'' ⟨h1, h2, h3⟩
    rw [← hnpe.out, ← hBt.out] at h1 h2
    exact ⟨h1, h2.2, h3⟩)
  have cE : Hid (∀ (r : Int) w', I64 r → Below W.heap.size W w' → Calls Try.prog 12 #[f.v (.slice A1 np k1) (.slice A2 n k2), .int .i64 r] w' (RetB (escS f.blocks r) w')) := hide (fun r w' h h' => escapes_any f r h (.slice A1 np k1) (.slice A2 n k2) w' w'.heap.size (Nat.le_refl _) (hF.out w' h') hz)
  have hask : Hid (askS np f.blocks p t q u = askR f.blocks A Bt t u) := hide (by unfold askS; rw [hA.out, hBt.out])
  replace hz := hide hz
  replace hf := hide hf
  replace hwW := hide hwW
  replace hp := hide hp
  replace hq := hide hq
  have hww := Nat.le_refl W.heap.size
  go_enter Try.func11, Try.ntmps11
  go_upto_region 1 with (fail)
  go_cut [11, 12] (fun s11 s12 wy => AskPair W A Bt s11 s12 wy)
  case first =>
    clear hW
    go_region_held3 (fun w' => Below W.heap.size W w') (first | (with_reducible assumption) | (with_reducible exact hself.drew) | ((repeat' with_reducible (first | assumption | exact hself.drew | exact Nat.le_refl _ | refine Below.drew ?_ | refine Below.setCell ?_ ?_ _ | refine Below.alloc ?_ ?_ _)) <;> (first | (show W.heap.size ≤ _; omega) | (show W.heap.size ≤ _; simp <;> omega))))
      (first
        | (go_at_call 26
           have hkk := hkY1
           refine (cB.out _ (by assumption)).mono ?_
           rintro e Y2 ⟨rfl, hIB, hbY2⟩
           replace hIB := hide hIB
           have hkY2 : Below W.heap.size W Y2 := below_next (by assumption) hww hbY2
           have hlY2 := hkY2.size
           obtain ⟨hc2, hf2⟩ := bcell9 hbY2
           (try have hs4 : Y1.heap.size < Y2.heap.size := by have := hbY2.size; (try simp at this); omega)
           (try have hs4' : Y1.heap.size + 1 < Y2.heap.size := by have := hbY2.size; (try simp at this); omega)
           (try have hs5 : W.heap.size < Y2.heap.size := by have := hbY2.size; (try simp at this); omega)
           (try have hs5' : W.heap.size + 1 < Y2.heap.size := by have := hbY2.size; (try simp at this); omega)
           have hsY2 := hbY2.size
           (try simp at hsY2)
           have hbY2h := hide hbY2
           clear hbY2)
        | (go_at_call 26
           refine (cA.out _ (by assumption)).mono ?_
           rintro e Y1 ⟨rfl, hIA, hbY1⟩
           replace hIA := hide hIA
           have hkY1 : Below W.heap.size W Y1 := below_next (by assumption) hww hbY1
           have hlY1 := hkY1.size
           obtain ⟨hc1, hf1⟩ := bcell9 hbY1
           (try have hs3 : W.heap.size < Y1.heap.size := by have := hbY1.size; (try simp at this); omega)
           (try have hs3' : W.heap.size + 1 < Y1.heap.size := by have := hbY1.size; (try simp at this); omega)
           have hsY1 := hbY1.size
           (try simp at hsY1)
           have hbY1h := hide hbY1
           clear hbY1))
    all_goals go_wp2_with (fail)
    all_goals go_meet
    all_goals clear cA cB cE hF hask q0 q1 q2 q3 r0 r1 r2 s0 s1 s2 hself hA hBt hn hnpe hm2 hnp hws hWs hz hf hwW hp hq
    all_goals refine ⟨_, _, rfl, rfl, (by
      repeat' with_reducible (first | exact rfl | exact box_top _ _ | refine of_drew' ?_ | exact box_under _ _ _ | exact alloc_top1' _ _ _ | exact alloc_top7 _ _ _ _ _ _ _ _ _ _ _ _ _ _ _ _ | refine set7z ?_ | refine set_far ?_ ?_ | refine one_alloc ?_ _ | refine (Below.heap_setCell _ _ _ _ ?_).trans ?_ | refine (Below.heap_alloc _ _ _ ?_).trans ?_ | refine (hbY2h.out.block _ ?_).trans ?_ | refine (hbY1h.out.block _ ?_).trans ?_)
      all_goals (first | (simp only [alloc_sz', setCell_sz, drew_sz']; omega) | omega)), (by
      repeat' with_reducible (first | exact rfl | exact box_top _ _ | refine of_drew' ?_ | exact box_under _ _ _ | exact alloc_top1' _ _ _ | exact alloc_top7 _ _ _ _ _ _ _ _ _ _ _ _ _ _ _ _ | refine set7z ?_ | refine set_far ?_ ?_ | refine one_alloc ?_ _ | refine (Below.heap_setCell _ _ _ _ ?_).trans ?_ | refine (Below.heap_alloc _ _ _ ?_).trans ?_ | refine (hbY2h.out.block _ ?_).trans ?_ | refine (hbY1h.out.block _ ?_).trans ?_)
      all_goals (first | (simp only [alloc_sz', setCell_sz, drew_sz']; omega) | omega)), hIA.out, hIB.out, (by with_reducible assumption)⟩
  case rest =>
    obtain ⟨na, nb, rfl, rfl, hna, hnb, hIA, hIB, hbel⟩ := hcut
    rename World => Y
    obtain ⟨va, xa, ka, la, sa⟩ := A
    obtain ⟨vb, xb, kb, lb, sb⟩ := Bt
    try simp only at hIA hIB hna hnb
    have hnaY : na < Y.heap.size := (Array.getElem?_eq_some_iff.1 hna).1
    have hnbY : nb < Y.heap.size := (Array.getElem?_eq_some_iff.1 hnb).1
    have aC : ∀ (j : Nat) u, (rtC ⟨va, xa, ka, la, sa⟩)[j]? = some u → ∀ w', Below Y.heap.size Y w' → w'.cell? ⟨na, j, none⟩ = some u := fun j u h w' hb => box_cell hna h hnaY hb
    have bC : ∀ (j : Nat) u, (rtC ⟨vb, xb, kb, lb, sb⟩)[j]? = some u → ∀ w', Below Y.heap.size Y w' → w'.cell? ⟨nb, j, none⟩ = some u := fun j u h w' hb => box_cell hnb h hnbY hb
    have a0 := aC 0 _ rfl
    have a1 := aC 1 _ rfl
    have a2 := aC 2 _ rfl
    have a3 := aC 3 _ rfl
    have a4 := aC 4 _ rfl
    have a5 := aC 5 _ rfl
    have a6 := aC 6 _ rfl
    have b0 := bC 0 _ rfl
    have b1 := bC 1 _ rfl
    have b2 := bC 2 _ rfl
    have b3 := bC 3 _ rfl
    have b4 := bC 4 _ rfl
    have b5 := bC 5 _ rfl
    have b6 := bC 6 _ rfl
    try simp only at a0 a1 a2 a3 a4 a5 a6 b0 b1 b2 b3 b4 b5 b6
    have hYs := hbel.size
    have z0 : ∀ w', Below Y.heap.size Y w' → w'.cell? ⟨w.heap.size, 0, none⟩ = some (.string f.name) := fun w' h => q0 w' (hbel.trans (h.mono hYs))
    have z1 : ∀ w', Below Y.heap.size Y w' → w'.cell? ⟨w.heap.size, 1, none⟩ = some (.slice A1 np k1) := fun w' h => q1 w' (hbel.trans (h.mono hYs))
    have z2 : ∀ w', Below Y.heap.size Y w' → w'.cell? ⟨w.heap.size, 2, none⟩ = some (.int .i64 f.ret) := fun w' h => q2 w' (hbel.trans (h.mono hYs))
    have z3 : ∀ w', Below Y.heap.size Y w' → w'.cell? ⟨w.heap.size, 3, none⟩ = some (.slice A2 n k2) := fun w' h => q3 w' (hbel.trans (h.mono hYs))
    have cEY : Hid (∀ (r : Int) w', I64 r → Below Y.heap.size Y w' → Calls Try.prog 12 #[f.v (.slice A1 np k1) (.slice A2 n k2), .int .i64 r] w' (RetB (escS f.blocks r) w')) := hide (fun r w' h h' => cE.out r w' h (hbel.trans (h'.mono hYs)))
    have hwY : Hid (Below w.heap.size w Y) := hide (hwW.out.trans (hbel.mono hws))
    have hwYs : Hid (w.heap.size ≤ Y.heap.size) := hide hwY.out.size
    have hselfY := Below.refl Y.heap.size Y
    replace hna := hide hna
    replace hnb := hide hnb
    replace hIA := hide hIA
    replace hIB := hide hIB
    clear aC bC q0 q1 q2 q3 r0 r1 r2 s0 s1 s2 hself cA cB cE hF hW hbel hYs
    obtain ⟨nA, hnA⟩ : ∃ b : Bool, Hid (b = noneS ⟨va, xa, ka, la, sa⟩) := ⟨_, hide rfl⟩
    obtain ⟨nB, hnB⟩ : ∃ b : Bool, Hid (b = noneS ⟨vb, xb, kb, lb, sb⟩) := ⟨_, hide rfl⟩
    go_wp2_with (fail)
    refine (none_any ⟨va, xa, ka, la, sa⟩ _).mono ?_
    rintro e Y1 ⟨rfl, hb1⟩
    rw [← hnA.out]
    have hs1 := hb1.size
    cases nA with
    | true =>
      have hres : Hid (askS np f.blocks p t q u = 0) := hide (by rw [hask.out]; unfold askR; rw [if_pos (.inl hnA.out.symm)])
      go_wp2
      go_ret
      exact ⟨ret_int hres.out.symm, hwY.out.trans (hb1.mono hwYs.out)⟩
    | false =>
      go_wp2_with (fail)
      refine (none_any ⟨vb, xb, kb, lb, sb⟩ _).mono ?_
      rintro e Y2 ⟨rfl, hb2⟩
      rw [← hnB.out]
      have hbY2 := hb1.trans (hb2.mono hs1)
      clear hb1 hb2 hs1
      cases nB with
      | true =>
        have hres : Hid (askS np f.blocks p t q u = 0) := hide (by rw [hask.out]; unfold askR; rw [if_pos (.inr hnB.out.symm)])
        go_wp2
        go_ret
        exact ⟨ret_int hres.out.symm, hwY.out.trans (hbY2.mono hwYs.out)⟩
      | false =>
        have hnn : Hid (¬ (noneS ⟨va, xa, ka, la, sa⟩ = true ∨ noneS ⟨vb, xb, kb, lb, sb⟩ = true)) := hide (by rw [← hnA.out, ← hnB.out]; simp)
        by_cases hv : va = vb
        · subst hv
          have hask2 : Hid (askS np f.blocks p t q u = if sa = false ∨ ka = false ∨ kb = false then 1 else meetS (bytesS t) (bytesS u) (apartS xa xb)) := hide (by rw [hask.out]; unfold askR; rw [if_neg hnn.out, if_pos rfl])
          cases sa with
          | false =>
            have hres : Hid (askS np f.blocks p t q u = 1) := hide (by rw [hask2.out]; simp)
            go_wp2
            go_ret
            exact ⟨ret_int hres.out.symm, hwY.out.trans (hbY2.mono hwYs.out)⟩
          | true =>
            cases ka with
            | false =>
              have hres : Hid (askS np f.blocks p t q u = 1) := hide (by rw [hask2.out]; simp)
              go_wp2
              go_ret
              exact ⟨ret_int hres.out.symm, hwY.out.trans (hbY2.mono hwYs.out)⟩
            | true =>
              cases kb with
              | false =>
                have hres : Hid (askS np f.blocks p t q u = 1) := hide (by rw [hask2.out]; simp)
                go_wp2
                go_ret
                exact ⟨ret_int hres.out.symm, hwY.out.trans (hbY2.mono hwYs.out)⟩
              | true =>
                have hres : Hid (askS np f.blocks p t q u = meetS (bytesS t) (bytesS u) (apartS xa xb)) := hide (by rw [hask2.out]; simp)
                go_upto_region 9 with (fail)
                go_quiet ((go_at_call 29; exact Calls.quiet_of_same ((bytes_any _ _).mono fun _ _ h => ⟨h.1, h.2.symm⟩)))
                have hbN : Below Y.heap.size Y (Y2.drewN nq) := below_drewN hbY2 _
                have hlast : Hid (Below w.heap.size w (Y2.drewN nq)) := hide (hwY.out.trans (hbN.mono hwYs.out))
                rw [apart_eq xa xb]
                have hD0 := apart_range xa xb
                have hn0 := bytes_range t
                have hm0 := bytes_range u
                generalize apartS xa xb = D at hres hD0 ⊢
                generalize bytesS t = bn at hres hn0 ⊢
                generalize bytesS u = bm at hres hm0 ⊢
                clear hask2 hask
                by_cases h0 : D = 0
                · subst h0
                  by_cases hnm : bn = bm
                  · have g1 : (bn == bm) = true := by rw [hnm]; simp
                    have hr : Hid (askS np f.blocks p t q u = 2) := hide (by rw [hres.out]; unfold meetS; rw [if_pos ⟨rfl, hnm⟩])
                    replace hnm := hide hnm
                    go_wp2
                    go_ret
                    exact ⟨ret_int hr.out.symm, hlast.out⟩
                  · have g1 : (bn == bm) = false := by rw [beq_eq_false_iff_ne]; exact hnm
                    have hr : Hid (askS np f.blocks p t q u = 1) := hide (by rw [hres.out]; unfold meetS; rw [if_neg (fun h => hnm h.2), if_neg (fun h => h.1 rfl)])
                    replace hnm := hide hnm
                    go_wp2
                    go_ret
                    exact ⟨ret_int hr.out.symm, hlast.out⟩
                · have g0 : (D == 0) = false := by rw [beq_eq_false_iff_ne]; exact h0
                  have g1 : (D != 0) = true := by rw [bne_iff_ne]; exact h0
                  have hneg : IntKind.u64.wrap (-D) = 18446744073709551616 - D := neg_wrap hD0.1 hD0.2 h0
                  have h0' := hide h0
                  by_cases h1 : bn ≤ D
                  · by_cases h2 : bm ≤ 18446744073709551616 - D
                    · have hr : Hid (askS np f.blocks p t q u = 0) := hide (by rw [hres.out]; unfold meetS; rw [if_neg (fun h => h0 h.1), if_pos ⟨h0, h1, h2⟩])
                      clear h0
                      obtain ⟨E, hE⟩ : ∃ E, Hid (E = 18446744073709551616 - D) := ⟨_, hide rfl⟩
                      rw [← hE.out] at hneg h2
                      go_wp2
                      go_ret
                      exact ⟨ret_int hr.out.symm, hlast.out⟩
                    · have hr : Hid (askS np f.blocks p t q u = 1) := hide (by rw [hres.out]; unfold meetS; rw [if_neg (fun h => h0 h.1), if_neg (fun h => h2 h.2.2)])
                      clear h0
                      obtain ⟨E, hE⟩ : ∃ E, Hid (E = 18446744073709551616 - D) := ⟨_, hide rfl⟩
                      rw [← hE.out] at hneg h2
                      go_wp2
                      go_ret
                      exact ⟨ret_int hr.out.symm, hlast.out⟩
                  · have hr : Hid (askS np f.blocks p t q u = 1) := hide (by rw [hres.out]; unfold meetS; rw [if_neg (fun h => h0 h.1), if_neg (fun h => h1 h.2.1)])
                    clear h0 hneg
                    go_wp2
                    go_ret
                    exact ⟨ret_int hr.out.symm, hlast.out⟩
        · have hask2 : Hid (askS np f.blocks p t q u = if (objS ⟨va, xa, ka, la, sa⟩ = true ∧ objS ⟨vb, xb, kb, lb, sb⟩ = true) ∨ (la = true ∧ escS f.blocks va.num = false) ∨ (lb = true ∧ escS f.blocks vb.num = false) then 0 else 1) := hide (by rw [hask.out]; unfold askR; rw [if_neg hnn.out, if_neg hv])
          have hv3 := opd_ne hv
          replace hv := hide hv
          go_upto_region 6 with (fail)
          go_cut [33] (fun s wx => s = .bool false ∧ wx = Y2)
          case first =>
            rcases hv3 with h | h | h
            · go_wp2_with (fail)
              go_meet
              exact ⟨rfl, rfl⟩
            · go_wp2_with (fail)
              go_meet
              exact ⟨rfl, rfl⟩
            · go_wp2_with (fail)
              go_meet
              exact ⟨rfl, rfl⟩
          case rest =>
            obtain ⟨rfl, rfl⟩ := hcut
            rename World => Y2
            clear hv3
            obtain ⟨oA, hoA⟩ : ∃ b : Bool, Hid (b = objS ⟨va, xa, ka, la, sa⟩) := ⟨_, hide rfl⟩
            obtain ⟨oB, hoB⟩ : ∃ b : Bool, Hid (b = objS ⟨vb, xb, kb, lb, sb⟩) := ⟨_, hide rfl⟩
            obtain ⟨eA, heA⟩ : ∃ b : Bool, Hid (b = escS f.blocks va.num) := ⟨_, hide rfl⟩
            obtain ⟨eB, heB⟩ : ∃ b : Bool, Hid (b = escS f.blocks vb.num) := ⟨_, hide rfl⟩
            rw [← hoA.out, ← hoB.out, ← heA.out, ← heB.out] at hask2
            have hb2s := hbY2.size
            go_wp2_with (fail)
            refine (obj_any ⟨va, xa, ka, la, sa⟩ _).mono ?_
            rintro e Y3 ⟨rfl, hb3⟩
            rw [← hoA.out]
            have hbY3 := hbY2.trans (hb3.mono hb2s)
            have hb3s := hbY3.size
            clear hb3 hbY2 hb2s
            cases oA with
            | true =>
              go_wp2_with (fail)
              refine (obj_any ⟨vb, xb, kb, lb, sb⟩ _).mono ?_
              rintro e Y4 ⟨rfl, hb4⟩
              rw [← hoB.out]
              have hbY4 := hbY3.trans (hb4.mono hb3s)
              clear hb4 hbY3 hb3s
              cases oB with
              | true =>
                have hr : Hid (askS np f.blocks p t q u = 0) := hide (by rw [hask2.out]; simp)
                go_wp2
                go_ret
                exact ⟨ret_int hr.out.symm, hwY.out.trans (hbY4.mono hwYs.out)⟩
              | false =>
                have hask3 : Hid (askS np f.blocks p t q u = if (la = true ∧ eA = false) ∨ (lb = true ∧ eB = false) then 0 else 1) := hide (by rw [hask2.out]; simp)
                cases la with
                | false =>
                  cases lb with
                  | false =>
                    have hr : Hid (askS np f.blocks p t q u = 1) := hide (by rw [hask3.out]; simp)
                    go_wp2
                    go_ret
                    exact ⟨ret_int hr.out.symm, hwY.out.trans (hbY4.mono hwYs.out)⟩
                  | true =>
                    go_wp2_with (fail)
                    refine (cEY.out vb.num _ hIB.out hbY4).mono ?_
                    rintro e Y6 ⟨rfl, hb6⟩
                    rw [← heB.out]
                    have hbY6 := hbY4.trans (hb6.mono hbY4.size)
                    clear hb6
                    cases eB with
                    | false =>
                      have hr : Hid (askS np f.blocks p t q u = 0) := hide (by rw [hask3.out]; simp)
                      go_wp2
                      go_ret
                      exact ⟨ret_int hr.out.symm, hwY.out.trans (hbY6.mono hwYs.out)⟩
                    | true =>
                      have hr : Hid (askS np f.blocks p t q u = 1) := hide (by rw [hask3.out]; simp)
                      go_wp2
                      go_ret
                      exact ⟨ret_int hr.out.symm, hwY.out.trans (hbY6.mono hwYs.out)⟩
                | true =>
                  go_wp2_with (fail)
                  refine (cEY.out va.num _ hIA.out hbY4).mono ?_
                  rintro e Y5 ⟨rfl, hb5⟩
                  rw [← heA.out]
                  have hbY5 := hbY4.trans (hb5.mono hbY4.size)
                  clear hb5 hbY4
                  cases eA with
                  | false =>
                    have hr : Hid (askS np f.blocks p t q u = 0) := hide (by rw [hask3.out]; simp)
                    go_wp2
                    go_ret
                    exact ⟨ret_int hr.out.symm, hwY.out.trans (hbY5.mono hwYs.out)⟩
                  | true =>
                    cases lb with
                    | false =>
                      have hr : Hid (askS np f.blocks p t q u = 1) := hide (by rw [hask3.out]; simp)
                      go_wp2
                      go_ret
                      exact ⟨ret_int hr.out.symm, hwY.out.trans (hbY5.mono hwYs.out)⟩
                    | true =>
                      go_wp2_with (fail)
                      refine (cEY.out vb.num _ hIB.out hbY5).mono ?_
                      rintro e Y6 ⟨rfl, hb6⟩
                      rw [← heB.out]
                      have hbY6 := hbY5.trans (hb6.mono hbY5.size)
                      clear hb6
                      cases eB with
                      | false =>
                        have hr : Hid (askS np f.blocks p t q u = 0) := hide (by rw [hask3.out]; simp)
                        go_wp2
                        go_ret
                        exact ⟨ret_int hr.out.symm, hwY.out.trans (hbY6.mono hwYs.out)⟩
                      | true =>
                        have hr : Hid (askS np f.blocks p t q u = 1) := hide (by rw [hask3.out]; simp)
                        go_wp2
                        go_ret
                        exact ⟨ret_int hr.out.symm, hwY.out.trans (hbY6.mono hwYs.out)⟩
            | false =>
              have hask3 : Hid (askS np f.blocks p t q u = if (la = true ∧ eA = false) ∨ (lb = true ∧ eB = false) then 0 else 1) := hide (by rw [hask2.out]; simp)
              have hbY4 := hbY3
              clear hbY3 hb3s
              rename World => Y4
              cases la with
              | false =>
                cases lb with
                | false =>
                  have hr : Hid (askS np f.blocks p t q u = 1) := hide (by rw [hask3.out]; simp)
                  go_wp2
                  go_ret
                  exact ⟨ret_int hr.out.symm, hwY.out.trans (hbY4.mono hwYs.out)⟩
                | true =>
                  go_wp2_with (fail)
                  refine (cEY.out vb.num _ hIB.out hbY4).mono ?_
                  rintro e Y6 ⟨rfl, hb6⟩
                  rw [← heB.out]
                  have hbY6 := hbY4.trans (hb6.mono hbY4.size)
                  clear hb6
                  cases eB with
                  | false =>
                    have hr : Hid (askS np f.blocks p t q u = 0) := hide (by rw [hask3.out]; simp)
                    go_wp2
                    go_ret
                    exact ⟨ret_int hr.out.symm, hwY.out.trans (hbY6.mono hwYs.out)⟩
                  | true =>
                    have hr : Hid (askS np f.blocks p t q u = 1) := hide (by rw [hask3.out]; simp)
                    go_wp2
                    go_ret
                    exact ⟨ret_int hr.out.symm, hwY.out.trans (hbY6.mono hwYs.out)⟩
              | true =>
                go_wp2_with (fail)
                refine (cEY.out va.num _ hIA.out hbY4).mono ?_
                rintro e Y5 ⟨rfl, hb5⟩
                rw [← heA.out]
                have hbY5 := hbY4.trans (hb5.mono hbY4.size)
                clear hb5 hbY4
                cases eA with
                | false =>
                  have hr : Hid (askS np f.blocks p t q u = 0) := hide (by rw [hask3.out]; simp)
                  go_wp2
                  go_ret
                  exact ⟨ret_int hr.out.symm, hwY.out.trans (hbY5.mono hwYs.out)⟩
                | true =>
                  cases lb with
                  | false =>
                    have hr : Hid (askS np f.blocks p t q u = 1) := hide (by rw [hask3.out]; simp)
                    go_wp2
                    go_ret
                    exact ⟨ret_int hr.out.symm, hwY.out.trans (hbY5.mono hwYs.out)⟩
                  | true =>
                    go_wp2_with (fail)
                    refine (cEY.out vb.num _ hIB.out hbY5).mono ?_
                    rintro e Y6 ⟨rfl, hb6⟩
                    rw [← heB.out]
                    have hbY6 := hbY5.trans (hb6.mono hbY5.size)
                    clear hb6
                    cases eB with
                    | false =>
                      have hr : Hid (askS np f.blocks p t q u = 0) := hide (by rw [hask3.out]; simp)
                      go_wp2
                      go_ret
                      exact ⟨ret_int hr.out.symm, hwY.out.trans (hbY6.mono hwYs.out)⟩
                    | true =>
                      have hr : Hid (askS np f.blocks p t q u = 1) := hide (by rw [hask3.out]; simp)
                      go_wp2
                      go_ret
                      exact ⟨ret_int hr.out.symm, hwY.out.trans (hbY6.mono hwYs.out)⟩
end Go.Proofs.Ytamjcafjdioidaa

namespace Go.Proofs.Ytamjcafjdioidaa
open Go.RowKit
set_option linter.unusedSimpArgs false
set_option linter.unusedVariables false

def l18A : Ins := ⟨26, 1, 65, 8, 0, [], []⟩
def l18G : Ins := ⟨29, 2, 65, 0, 0, [⟨1, 1, 0⟩, ⟨2, 0, 4⟩], []⟩
def l18H : Ins := ⟨33, -1, 0, 0, 0, [], []⟩
def l18B : List (List Ins) := [[l18A, l18G, l18H]]
def l18F : Fun := ⟨⟨#[102]⟩, [], 0, l18B⟩
theorem l18_mk1 (b : Int) : makerS l18B ⟨1, 1, b⟩ = some (l18A, 0) :=
  makerS_some (i := 0) (j := 0) rfl rfl rfl ⟨_, _, rfl, rfl, (show defs l18A 1 = true by decide), by rw [before_zero]; exact noDef_nil _⟩
theorem l18_mk2 (b : Int) : makerS l18B ⟨1, 2, b⟩ = some (l18G, 0) :=
  makerS_some (i := 0) (j := 1) rfl rfl rfl ⟨_, _, rfl, rfl, (show defs l18G 2 = true by decide), fun x hx => by
    have : x = l18A := by simpa [before, l18B] using hx
    subst this; exact (show defs l18A 2 = false by decide)⟩
theorem l18_r1 : rootS l18B ⟨1, 1, 0⟩ = (⟨1, 1, 0⟩, 0, true) := by
  unfold rootS rootR
  rw [show (regsM l18B).length + 1 = 3 + 1 from rfl, rootGo_stop (l18_mk1 0) (by decide)]
  rfl
theorem l18_r2 : rootS l18B ⟨1, 2, 0⟩ = (⟨1, 1, 0⟩, 4, true) := by
  unfold rootS rootR
  rw [show (regsM l18B).length + 1 = 2 + 1 + 1 from rfl, rootGo_step (l18_mk2 0) (a := ⟨1, 1, 0⟩) (b := ⟨2, 0, 4⟩) (by decide) (by decide), rootGo_stop (l18_mk1 0) (by decide)]
  simp [show offAdd 0 4 = 4 from by unfold offAdd wrap64; omega]
theorem l18_o1 : ofS 0 l18B ⟨1, 1, 0⟩ = ⟨⟨1, 1, 0⟩, 0, true, true, true⟩ := by
  unfold ofS
  rw [l18_r1]
  simp only
  rw [alloca_yes (l18_mk1 0), stable_yes (l18_mk1 0)]
  rfl
theorem l18_o2 : ofS 0 l18B ⟨1, 2, 0⟩ = ⟨⟨1, 1, 0⟩, 4, true, true, true⟩ := by
  unfold ofS
  rw [l18_r2]
  simp only
  rw [alloca_yes (l18_mk1 0), stable_yes (l18_mk1 0)]
  rfl
theorem ask_same {bs : List (List Ins)} {v : Opd} {x y : Int} {t u : Int} (h : noneS ⟨v, x, true, true, true⟩ = false) : askR bs ⟨v, x, true, true, true⟩ ⟨v, y, true, true, true⟩ t u = meetS (bytesS t) (bytesS u) (apartS x y) := by
  unfold askR
  have h2 : noneS ⟨v, y, true, true, true⟩ = false := h
  rw [if_neg (by rw [h, h2]; simp), if_pos rfl, if_neg (by simp)]
theorem l18_a1 : askS 0 l18B ⟨1, 1, 0⟩ 32 ⟨1, 2, 0⟩ 32 = 0 := by
  unfold askS
  rw [l18_o1, l18_o2, ask_same (by decide)]
  decide
theorem l18_a2 : askS 0 l18B ⟨1, 1, 0⟩ 64 ⟨1, 2, 0⟩ 32 = 1 := by
  unfold askS
  rw [l18_o1, l18_o2, ask_same (by decide)]
  decide
theorem l18_a3 : askS 0 l18B ⟨1, 2, 0⟩ 32 ⟨1, 2, 0⟩ 32 = 2 := by
  unfold askS
  rw [l18_o2, ask_same (by decide)]
  decide
theorem l18_kin : ∀ r, (r == 1 || r == 2) = true ↔ Kin l18B.flatten 1 r := by
  intro r
  constructor
  · intro h
    rcases Bool.or_eq_true_iff.1 h with h | h
    · rw [beq_iff_eq.1 h]; exact .self
    · rw [beq_iff_eq.1 h]
      exact .step (i := l18G) (a := ⟨1, 1, 0⟩) (rest := [⟨2, 0, 4⟩]) (by decide) rfl rfl rfl .self
  · intro h
    induction h with
    | self => rfl
    | @step i a rest h1 h2 h3 h4 _ ih =>
      have : i = l18A ∨ i = l18G ∨ i = l18H := by simpa [l18B] using h1
      rcases this with rfl | rfl | rfl
      · exact absurd h2 (by decide)
      · rfl
      · exact absurd h2 (by decide)
theorem l18_esc : escS l18B 1 = false := esc_false (q := fun r => r == 1 || r == 2) l18_kin fun i hi k v hv => by
  have : i = l18A ∨ i = l18G ∨ i = l18H := by simpa [l18B] using hi
  rcases this with rfl | rfl | rfl
  · cases hv
  · match k with
    | 0 => cases hv; rfl
    | 1 => cases hv; rfl
    | k + 2 => simp [l18G] at hv
  · cases hv
theorem ret_classv {P : Program} {k : Nat} {args : Array Value} {v : Value} {W w9 : World} (c : Calls P k args w9 (RetV v w9)) (h : Below W.heap.size W w9) :
    Calls P k args w9 fun e w'' => e = .returned v ∧ Below W.heap.size W w'' := c.mono fun _ _ h' => ⟨h'.1, h.trans (h'.2.mono h.size)⟩
def long18F (f : Fun) : Bool := !decide ((totN f : Int) ≤ 800)
set_option maxRecDepth 100000 in
set_option maxHeartbeats 3200000 in
theorem long18_any (f : Fun) (c1 c2 : Value) (w : World) (B : Nat) (hB : B ≤ w.heap.size) (hf : RFun.rep w B [.string f.name, c1, .int .i64 f.ret, c2] f) (hsz : funSz f ≤ 2000000) :
    Calls Try.prog 9 #[f.v c1 c2] w (RetB (long18F f) w) := by
  obtain ⟨hp, hb⟩ := fun_open (RFun.later hf (Below.refl _ _) hB)
  obtain ⟨A1, k1, h1, -, -⟩ := Rp.slice1_open hp
  obtain ⟨A2, k2, h2, hm2, -⟩ := Rp.slice1_open hb
  cases h1; cases h2
  clear hp hb
  obtain ⟨W, hW, hwW, hWs, hx⟩ := boxes1 w #[.string f.name, .slice A1 f.params.length k1, .int .i64 f.ret, .slice A2 f.blocks.length k2] 32
  have q0 : ∀ w', Below W.heap.size W w' → w'.cell? ⟨w.heap.size, 0, none⟩ = some (.string f.name) := hx 0 _ rfl
  have q1 : ∀ w', Below W.heap.size W w' → w'.cell? ⟨w.heap.size, 1, none⟩ = some (.slice A1 f.params.length k1) := hx 1 _ rfl
  have q2 : ∀ w', Below W.heap.size W w' → w'.cell? ⟨w.heap.size, 2, none⟩ = some (.int .i64 f.ret) := hx 2 _ rfl
  have q3 : ∀ w', Below W.heap.size W w' → w'.cell? ⟨w.heap.size, 3, none⟩ = some (.slice A2 f.blocks.length k2) := hx 3 _ rfl
  clear hx
  have hws : w.heap.size ≤ W.heap.size := by omega
  replace hWs := hide hWs
  have hself := Below.refl W.heap.size W
  have hfW := RFun.later hf (hwW.mono hB) (Nat.le_trans hB hwW.size)
  have c9 := few1_any f 800 (.slice (some ⟨W.heap.size, 0, none⟩) 1 1) _ _ (Nat.le_refl _) (one_fun (Nat.le_refl _) hfW) (by have := totN_le (f := f); omega)
  obtain ⟨d, hd⟩ : ∃ d, Hid (d = decide ((totN f : Int) ≤ 800)) := ⟨_, hide rfl⟩
  rw [← hd.out] at c9
  have hv : Hid (long18F f = !d) := hide (by unfold long18F; rw [hd.out])
  replace c9 := hide c9
  replace hf := hide hf
  replace hfW := hide hfW
  go_enter Try.func9, Try.ntmps9
  go_wp2_with (fail)
  refine c9.out.mono ?_
  rintro e w9 ⟨rfl, hb9⟩
  have hb := hwW.trans ((bstep hb9).mono hws)
  go_wp2
  go_ret
  exact ⟨ret_bool hv.out.symm, hb⟩
set_option maxRecDepth 100000 in
set_option maxHeartbeats 6400000 in
theorem lives18_any (w : World) : Calls Try.prog 7 #[] w (RetB true w) := by
  obtain ⟨W, hW, hwW, hWs, -, -, -, hx⟩ := boxes4 w #[.int .i64 1, .int .i64 1, .int .u64 0, .int .i64 2, .int .i64 0, .int .u64 4]
    #[.int .i64 26, .int .i64 1, .int .i64 65, .int .i64 8, .int .i64 0, .slice none 0 0, .slice none 0 0, .int .i64 29, .int .i64 2, .int .i64 65, .int .i64 0, .int .i64 0, .slice (some ⟨w.heap.size, 0, none⟩) 2 2, .slice none 0 0, .int .i64 33, .int .i64 (-1), .int .i64 0, .int .i64 0, .int .i64 0, .slice none 0 0, .slice none 0 0]
    #[.slice (some ⟨w.heap.size + 1, 0, none⟩) 3 3]
    #[.string ⟨#[102]⟩, .slice none 0 0, .int .i64 0, .slice (some ⟨w.heap.size + 1 + 1, 0, none⟩) 1 1] 42 39 36 32
  have x0 := hx 0 _ rfl
  have x1 := hx 1 _ rfl
  have x2 := hx 2 _ rfl
  have x3 := hx 3 _ rfl
  clear hx
  have e0 : W.heap[w.heap.size]? = some (.cells #[.int .i64 1, .int .i64 1, .int .u64 0, .int .i64 2, .int .i64 0, .int .u64 4] 42 (0, 0)) := by rw [← hW]; exact one_alloc (one_alloc (one_alloc (box_top _ _) _) _) _
  have e1 : W.heap[w.heap.size + 1]? = some (.cells #[.int .i64 26, .int .i64 1, .int .i64 65, .int .i64 8, .int .i64 0, .slice none 0 0, .slice none 0 0, .int .i64 29, .int .i64 2, .int .i64 65, .int .i64 0, .int .i64 0, .slice (some ⟨w.heap.size, 0, none⟩) 2 2, .slice none 0 0, .int .i64 33, .int .i64 (-1), .int .i64 0, .int .i64 0, .int .i64 0, .slice none 0 0, .slice none 0 0] 39 (0, 0)) := by rw [← hW]; exact one_alloc (one_alloc (box_at _ (by simp)) _) _
  have e2 : W.heap[w.heap.size + 1 + 1]? = some (.cells #[.slice (some ⟨w.heap.size + 1, 0, none⟩) 3 3] 36 (0, 0)) := by rw [← hW]; exact one_alloc (box_at _ (by simp)) _
  have hml : ∀ n, n ≤ 8 → n ≤ maxLen := fun n hn => by unfold maxLen; omega
  have ra : ROpds.rep W W.heap.size [.slice (some ⟨w.heap.size, 0, none⟩) 2 2] l18G.args := slice_mk (xs := ([⟨1, 1, 0⟩, ⟨2, 0, 4⟩] : List Opd)) (by omega) e0 (Nat.le_refl _) (hml _ (by simp)) (fun i x hx => by
    have : i = 0 ∨ i = 1 := by have := (List.getElem?_eq_some_iff.1 hx).1; simp at this; omega
    rcases this with rfl | rfl
    · injection hx with hx; subst hx; exact ⟨[.int .i64 1, .int .i64 1, .int .u64 0], rfl, ⟨rfl, by decide, by decide⟩, rfl⟩
    · injection hx with hx; subst hx; exact ⟨[.int .i64 2, .int .i64 0, .int .u64 4], rfl, ⟨rfl, by decide, by decide⟩, rfl⟩)
  have ri : RBlk.rep W W.heap.size [.slice (some ⟨w.heap.size + 1, 0, none⟩) 3 3] [l18A, l18G, l18H] := slice_mk (xs := [l18A, l18G, l18H]) (by omega) e1 (Nat.le_refl _) (hml _ (by simp)) (fun i x hx => by
    have : i = 0 ∨ i = 1 ∨ i = 2 := by have := (List.getElem?_eq_some_iff.1 hx).1; simp at this; omega
    rcases this with rfl | rfl | rfl
    · injection hx with hx; subst hx
      exact ⟨_, rfl, ⟨.slice none 0 0, .slice none 0 0, rfl, Rp.nil_rep, Rp.nil_rep, by decide, by decide, by decide, by decide, by decide⟩, rfl⟩
    · injection hx with hx; subst hx
      exact ⟨_, rfl, ⟨.slice (some ⟨w.heap.size, 0, none⟩) 2 2, .slice none 0 0, rfl, ra, Rp.nil_rep, by decide, by decide, by decide, by decide, by decide⟩, rfl⟩
    · injection hx with hx; subst hx
      exact ⟨_, rfl, ⟨.slice none 0 0, .slice none 0 0, rfl, Rp.nil_rep, Rp.nil_rep, by decide, by decide, by decide, by decide, by decide⟩, rfl⟩)
  have rb : RBlks.rep W W.heap.size [.slice (some ⟨w.heap.size + 1 + 1, 0, none⟩) 1 1] l18F.blocks := slice_mk (xs := [[l18A, l18G, l18H]]) (by omega) e2 (Nat.le_refl _) (hml _ (by simp)) (fun i x hx => by
    have : i = 0 := by have := (List.getElem?_eq_some_iff.1 hx).1; simp at this; omega
    subst this
    injection hx with hx; subst hx
    exact ⟨[.slice (some ⟨w.heap.size + 1, 0, none⟩) 3 3], rfl, ri, rfl⟩)
  have hf : Hid (RFun.rep W W.heap.size [.string l18F.name, .slice none 0 0, .int .i64 l18F.ret, .slice (some ⟨w.heap.size + 1 + 1, 0, none⟩) 1 1] l18F) := hide ⟨_, _, rfl, Rp.nil_rep, rb, by decide, by decide⟩
  clear e0 e1 e2 ra ri hml rb
  have hsz : w.heap.size ≤ W.heap.size := by omega
  have hzz : funSz l18F ≤ 2000000 := by decide
  obtain ⟨V, hV, hwV, hVs, hv1, hv2⟩ := boxes2 W #[.int .i64 1, .int .i64 1, .int .u64 0] #[.int .i64 1, .int .i64 2, .int .u64 0] 42 42
  have y0 := hv1 0 _ rfl
  have y1 := hv1 1 _ rfl
  have y2 := hv1 2 _ rfl
  have z0 := hv2 0 _ rfl
  have z1 := hv2 1 _ rfl
  have z2 := hv2 2 _ rfl
  have upV : ∀ w', Below V.heap.size V w' → Below W.heap.size W w' := fun w' h => hwV.trans (h.mono (by omega))
  have k0 : ∀ w', Below V.heap.size V w' → w'.cell? ⟨w.heap.size + 1 + 1 + 1, 0, none⟩ = some (.string ⟨#[102]⟩) := fun w' h => x0 w' (upV w' h)
  have k1 : ∀ w', Below V.heap.size V w' → w'.cell? ⟨w.heap.size + 1 + 1 + 1, 1, none⟩ = some (.slice none 0 0) := fun w' h => x1 w' (upV w' h)
  have k2 : ∀ w', Below V.heap.size V w' → w'.cell? ⟨w.heap.size + 1 + 1 + 1, 2, none⟩ = some (.int .i64 0) := fun w' h => x2 w' (upV w' h)
  have k3 : ∀ w', Below V.heap.size V w' → w'.cell? ⟨w.heap.size + 1 + 1 + 1, 3, none⟩ = some (.slice (some ⟨w.heap.size + 1 + 1, 0, none⟩) 1 1) := fun w' h => x3 w' (upV w' h)
  have cA : Hid (∀ (p q : Opd) (t u r : Int), I64 p.kind ∧ I64 p.num → I64 q.kind ∧ I64 q.num → askS 0 l18B p t q u = r → ∀ w', Below V.heap.size V w' → Calls Try.prog 11 #[.agg #[.string ⟨#[102]⟩, .slice none 0 0, .int .i64 0, .slice (some ⟨w.heap.size + 1 + 1, 0, none⟩) 1 1], .agg #[.int .i64 p.kind, .int .i64 p.num, .int .u64 p.bits], .int .i64 t, .agg #[.int .i64 q.kind, .int .i64 q.num, .int .u64 q.bits], .int .i64 u] w' (RetV (.int .i64 r) w')) := hide (fun p q t u r hp hq hr w' h => by
    have := asked_any l18F p q t u hp hq (.slice none 0 0) (.slice (some ⟨w.heap.size + 1 + 1, 0, none⟩) 1 1) w' w'.heap.size (Nat.le_refl _) (RFun.later hf.out (upV w' h) (upV w' h).size) hzz
    rwa [show l18F.params.length = 0 from rfl, show l18F.blocks = l18B from rfl, hr] at this)
  have cE : Hid (∀ w', Below V.heap.size V w' → Calls Try.prog 12 #[.agg #[.string ⟨#[102]⟩, .slice none 0 0, .int .i64 0, .slice (some ⟨w.heap.size + 1 + 1, 0, none⟩) 1 1], .int .i64 1] w' (RetB false w')) := hide (fun w' h => by
    have := escapes_any l18F 1 (by decide) (.slice none 0 0) (.slice (some ⟨w.heap.size + 1 + 1, 0, none⟩) 1 1) w' w'.heap.size (Nat.le_refl _) (RFun.later hf.out (upV w' h) (upV w' h).size) hzz
    rwa [show l18F.blocks = l18B from rfl, l18_esc] at this)
  have c1 := hide (cA.out ⟨1, 1, 0⟩ ⟨1, 2, 0⟩ 32 32 0 (by decide) (by decide) l18_a1)
  have c2 := hide (cA.out ⟨1, 1, 0⟩ ⟨1, 2, 0⟩ 64 32 1 (by decide) (by decide) l18_a2)
  have c3 := hide (cA.out ⟨1, 2, 0⟩ ⟨1, 2, 0⟩ 32 32 2 (by decide) (by decide) l18_a3)
  have hlast : Hid (Below w.heap.size w V) := hide (hwW.trans (hwV.mono hsz))
  have hlz : Hid (w.heap.size ≤ V.heap.size) := hide hlast.out.size
  have hself := Below.refl V.heap.size V
  replace hWs := hide hWs
  replace hVs := hide hVs
  replace hwW := hide hwW
  replace hwV := hide hwV
  replace hV := hide hV
  clear hv1 hv2 hf x0 x1 x2 x3 upV cA hzz
  go_enter Try.func7, Try.ntmps7
  go_upto_region 2 with (fail)
  try rw [hW]
  clear hW
  go_upto_region 3 with (fail)
  rw [hV.out]
  clear hV
  go_wp2_with (fail)
  refine (c1.out _ hself).mono ?_
  rintro e w1 ⟨rfl, hb1⟩
  go_wp2_with (fail)
  refine (c2.out _ hb1).mono ?_
  rintro e w2 ⟨rfl, hb2⟩
  have hk2 := hb1.trans (hb2.mono hb1.size)
  go_wp2_with (fail)
  refine (c3.out _ hk2).mono ?_
  rintro e w3 ⟨rfl, hb3⟩
  have hk3 := hk2.trans (hb3.mono hk2.size)
  go_wp2_with (fail)
  refine (cE.out _ hk3).mono ?_
  rintro e w4 ⟨rfl, hb4⟩
  have hk4 := hk3.trans (hb4.mono hk3.size)
  go_wp2
  go_ret
  exact ⟨rfl, hlast.out.trans (hk4.mono hlz.out)⟩
end Go.Proofs.Ytamjcafjdioidaa
