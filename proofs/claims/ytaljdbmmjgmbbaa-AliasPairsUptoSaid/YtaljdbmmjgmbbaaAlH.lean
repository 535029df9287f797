/- lathelaw18.lives, lathelaw18.Long. No condition but a bound on the function's size. -/
import Derived.Test.YtaljdbmmjgmbbaaAlG
namespace Go.Proofs.Ytaljdbmmjgmbbaa
open Go.RowKit
set_option linter.unusedSimpArgs false
set_option linter.unusedVariables false

def l18A : Ins := ⟨26, 1, 65, 8, 0, [], []⟩
def l18G : Ins := ⟨29, 2, 65, 0, 0, [⟨1, 1, 0⟩, ⟨2, 0, 4⟩], []⟩
def l18H : Ins := ⟨33, -1, 0, 0, 0, [], []⟩
def l18B : List (List Ins) := [[l18A, l18G, l18H]]
def l18F : Fun := ⟨⟨#[102]⟩, [], 0, l18B⟩
theorem l18_mk1 (b : Int) : makerS l18B ⟨1, 1, b⟩ = some (l18A, 0) :=
  makerS_some (i := 0) (j := 0) rfl rfl rfl ⟨_, _, rfl, rfl, (show defs l18A 1 = true by decide), by rw [before_zero]; exact noDef_nil _⟩
theorem l18_mk2 (b : Int) : makerS l18B ⟨1, 2, b⟩ = some (l18G, 0) :=
  makerS_some (i := 0) (j := 1) rfl rfl rfl ⟨_, _, rfl, rfl, (show defs l18G 2 = true by decide), fun x hx => by
    have : x = l18A := by simpa [before, l18B] using hx
    subst this; exact (show defs l18A 2 = false by decide)⟩
theorem l18_r1 : rootS l18B ⟨1, 1, 0⟩ = (⟨1, 1, 0⟩, 0, true) := by
  unfold rootS rootR
  rw [show (regsM l18B).length + 1 = 3 + 1 from rfl, rootGo_stop (l18_mk1 0) (by decide)]
  rfl
theorem l18_r2 : rootS l18B ⟨1, 2, 0⟩ = (⟨1, 1, 0⟩, 4, true) := by
  unfold rootS rootR
  rw [show (regsM l18B).length + 1 = 2 + 1 + 1 from rfl, rootGo_step (l18_mk2 0) (a := ⟨1, 1, 0⟩) (b := ⟨2, 0, 4⟩) (by decide) (by decide), rootGo_stop (l18_mk1 0) (by decide)]
  simp [show offAdd 0 4 = 4 from by unfold offAdd wrap64; omega]
theorem l18_o1 : ofS 0 l18B ⟨1, 1, 0⟩ = ⟨⟨1, 1, 0⟩, 0, true, true, true⟩ := by
  unfold ofS
  rw [l18_r1]
  simp only
  rw [alloca_yes (l18_mk1 0), stable_yes (l18_mk1 0)]
  rfl
theorem l18_o2 : ofS 0 l18B ⟨1, 2, 0⟩ = ⟨⟨1, 1, 0⟩, 4, true, true, true⟩ := by
  unfold ofS
  rw [l18_r2]
  simp only
  rw [alloca_yes (l18_mk1 0), stable_yes (l18_mk1 0)]
  rfl
theorem ask_same {bs : List (List Ins)} {v : Opd} {x y : Int} {t u : Int} (h : noneS ⟨v, x, true, true, true⟩ = false) : askR bs ⟨v, x, true, true, true⟩ ⟨v, y, true, true, true⟩ t u = meetS (bytesS t) (bytesS u) (apartS x y) := by
  unfold askR
  have h2 : noneS ⟨v, y, true, true, true⟩ = false := h
  rw [if_neg (by rw [h, h2]; simp), if_pos rfl, if_neg (by simp)]
theorem l18_a1 : askS 0 l18B ⟨1, 1, 0⟩ 32 ⟨1, 2, 0⟩ 32 = 0 := by
  unfold askS
  rw [l18_o1, l18_o2, ask_same (by decide)]
  decide
theorem l18_a2 : askS 0 l18B ⟨1, 1, 0⟩ 64 ⟨1, 2, 0⟩ 32 = 1 := by
  unfold askS
  rw [l18_o1, l18_o2, ask_same (by decide)]
  decide
theorem l18_a3 : askS 0 l18B ⟨1, 2, 0⟩ 32 ⟨1, 2, 0⟩ 32 = 2 := by
  unfold askS
  rw [l18_o2, ask_same (by decide)]
  decide
theorem l18_kin : ∀ r, (r == 1 || r == 2) = true ↔ Kin l18B.flatten 1 r := by
  intro r
  constructor
  · intro h
    rcases Bool.or_eq_true_iff.1 h with h | h
    · rw [beq_iff_eq.1 h]; exact .self
    · rw [beq_iff_eq.1 h]
      exact .step (i := l18G) (a := ⟨1, 1, 0⟩) (rest := [⟨2, 0, 4⟩]) (by decide) rfl rfl rfl .self
  · intro h
    induction h with
    | self => rfl
    | @step i a rest h1 h2 h3 h4 _ ih =>
      have : i = l18A ∨ i = l18G ∨ i = l18H := by simpa [l18B] using h1
      rcases this with rfl | rfl | rfl
      · exact absurd h2 (by decide)
      · rfl
      · exact absurd h2 (by decide)
theorem l18_esc : escS l18B 1 = false := esc_false (q := fun r => r == 1 || r == 2) l18_kin fun i hi k v hv => by
  have : i = l18A ∨ i = l18G ∨ i = l18H := by simpa [l18B] using hi
  rcases this with rfl | rfl | rfl
  · cases hv
  · match k with
    | 0 => cases hv; rfl
    | 1 => cases hv; rfl
    | k + 2 => simp [l18G] at hv
  · cases hv
theorem ret_classv {P : Program} {k : Nat} {args : Array Value} {v : Value} {W w9 : World} (c : Calls P k args w9 (RetV v w9)) (h : Below W.heap.size W w9) :
    Calls P k args w9 fun e w'' => e = .returned v ∧ Below W.heap.size W w'' := c.mono fun _ _ h' => ⟨h'.1, h.trans (h'.2.mono h.size)⟩
def long18F (f : Fun) : Bool := !decide ((totN f : Int) ≤ 800)
set_option maxRecDepth 100000 in
set_option maxHeartbeats 3200000 in
theorem long18_any (f : Fun) (c1 c2 : Value) (w : World) (B : Nat) (hB : B ≤ w.heap.size) (hf : RFun.rep w B [.string f.name, c1, .int .i64 f.ret, c2] f) (hsz : funSz f ≤ 2000000) :
    Calls Try.prog 15 #[f.v c1 c2] w (RetB (long18F f) w) := by
  obtain ⟨hp, hb⟩ := fun_open (RFun.later hf (Below.refl _ _) hB)
  obtain ⟨A1, k1, h1, -, -⟩ := Rp.slice1_open hp
  obtain ⟨A2, k2, h2, hm2, -⟩ := Rp.slice1_open hb
  cases h1; cases h2
  clear hp hb
  obtain ⟨W, hW, hwW, hWs, hx⟩ := boxes1 w #[.string f.name, .slice A1 f.params.length k1, .int .i64 f.ret, .slice A2 f.blocks.length k2] 25
  have q0 : ∀ w', Below W.heap.size W w' → w'.cell? ⟨w.heap.size, 0, none⟩ = some (.string f.name) := hx 0 _ rfl
  have q1 : ∀ w', Below W.heap.size W w' → w'.cell? ⟨w.heap.size, 1, none⟩ = some (.slice A1 f.params.length k1) := hx 1 _ rfl
  have q2 : ∀ w', Below W.heap.size W w' → w'.cell? ⟨w.heap.size, 2, none⟩ = some (.int .i64 f.ret) := hx 2 _ rfl
  have q3 : ∀ w', Below W.heap.size W w' → w'.cell? ⟨w.heap.size, 3, none⟩ = some (.slice A2 f.blocks.length k2) := hx 3 _ rfl
  clear hx
  have hws : w.heap.size ≤ W.heap.size := by omega
  replace hWs := hide hWs
  have hself := Below.refl W.heap.size W
  have hfW := RFun.later hf (hwW.mono hB) (Nat.le_trans hB hwW.size)
  have c9 := few1_any f 800 (.slice (some ⟨W.heap.size, 0, none⟩) 1 1) _ _ (Nat.le_refl _) (one_fun (Nat.le_refl _) hfW) (by have := totN_le (f := f); omega)
  obtain ⟨d, hd⟩ : ∃ d, Hid (d = decide ((totN f : Int) ≤ 800)) := ⟨_, hide rfl⟩
  rw [← hd.out] at c9
  have hv : Hid (long18F f = !d) := hide (by unfold long18F; rw [hd.out])
  replace c9 := hide c9
  replace hf := hide hf
  replace hfW := hide hfW
  go_enter Try.func15, Try.ntmps15
  go_wp2_with (fail)
  refine c9.out.mono ?_
  rintro e w9 ⟨rfl, hb9⟩
  have hb := hwW.trans ((bstep hb9).mono hws)
  go_wp2
  go_ret
  exact ⟨ret_bool hv.out.symm, hb⟩
set_option maxRecDepth 100000 in
set_option maxHeartbeats 6400000 in
theorem lives18_any (w : World) : Calls Try.prog 14 #[] w (RetB true w) := by
  obtain ⟨W, hW, hwW, hWs, -, -, -, hx⟩ := boxes4 w #[.int .i64 1, .int .i64 1, .int .u64 0, .int .i64 2, .int .i64 0, .int .u64 4]
    #[.int .i64 26, .int .i64 1, .int .i64 65, .int .i64 8, .int .i64 0, .slice none 0 0, .slice none 0 0, .int .i64 29, .int .i64 2, .int .i64 65, .int .i64 0, .int .i64 0, .slice (some ⟨w.heap.size, 0, none⟩) 2 2, .slice none 0 0, .int .i64 33, .int .i64 (-1), .int .i64 0, .int .i64 0, .int .i64 0, .slice none 0 0, .slice none 0 0]
    #[.slice (some ⟨w.heap.size + 1, 0, none⟩) 3 3]
    #[.string ⟨#[102]⟩, .slice none 0 0, .int .i64 0, .slice (some ⟨w.heap.size + 1 + 1, 0, none⟩) 1 1] 28 44 41 25
  have x0 := hx 0 _ rfl
  have x1 := hx 1 _ rfl
  have x2 := hx 2 _ rfl
  have x3 := hx 3 _ rfl
  clear hx
  have e0 : W.heap[w.heap.size]? = some (.cells #[.int .i64 1, .int .i64 1, .int .u64 0, .int .i64 2, .int .i64 0, .int .u64 4] 28 (0, 0)) := by rw [← hW]; exact one_alloc (one_alloc (one_alloc (box_top _ _) _) _) _
  have e1 : W.heap[w.heap.size + 1]? = some (.cells #[.int .i64 26, .int .i64 1, .int .i64 65, .int .i64 8, .int .i64 0, .slice none 0 0, .slice none 0 0, .int .i64 29, .int .i64 2, .int .i64 65, .int .i64 0, .int .i64 0, .slice (some ⟨w.heap.size, 0, none⟩) 2 2, .slice none 0 0, .int .i64 33, .int .i64 (-1), .int .i64 0, .int .i64 0, .int .i64 0, .slice none 0 0, .slice none 0 0] 44 (0, 0)) := by rw [← hW]; exact one_alloc (one_alloc (box_at _ (by simp)) _) _
  have e2 : W.heap[w.heap.size + 1 + 1]? = some (.cells #[.slice (some ⟨w.heap.size + 1, 0, none⟩) 3 3] 41 (0, 0)) := by rw [← hW]; exact one_alloc (box_at _ (by simp)) _
  have hml : ∀ n, n ≤ 8 → n ≤ maxLen := fun n hn => by unfold maxLen; omega
  have ra : ROpds.rep W W.heap.size [.slice (some ⟨w.heap.size, 0, none⟩) 2 2] l18G.args := slice_mk (xs := ([⟨1, 1, 0⟩, ⟨2, 0, 4⟩] : List Opd)) (by omega) e0 (Nat.le_refl _) (hml _ (by simp)) (fun i x hx => by
    have : i = 0 ∨ i = 1 := by have := (List.getElem?_eq_some_iff.1 hx).1; simp at this; omega
    rcases this with rfl | rfl
    · injection hx with hx; subst hx; exact ⟨[.int .i64 1, .int .i64 1, .int .u64 0], rfl, ⟨rfl, by decide, by decide⟩, rfl⟩
    · injection hx with hx; subst hx; exact ⟨[.int .i64 2, .int .i64 0, .int .u64 4], rfl, ⟨rfl, by decide, by decide⟩, rfl⟩)
  have ri : RBlk.rep W W.heap.size [.slice (some ⟨w.heap.size + 1, 0, none⟩) 3 3] [l18A, l18G, l18H] := slice_mk (xs := [l18A, l18G, l18H]) (by omega) e1 (Nat.le_refl _) (hml _ (by simp)) (fun i x hx => by
    have : i = 0 ∨ i = 1 ∨ i = 2 := by have := (List.getElem?_eq_some_iff.1 hx).1; simp at this; omega
    rcases this with rfl | rfl | rfl
    · injection hx with hx; subst hx
      exact ⟨_, rfl, ⟨.slice none 0 0, .slice none 0 0, rfl, Rp.nil_rep, Rp.nil_rep, by decide, by decide, by decide, by decide, by decide⟩, rfl⟩
    · injection hx with hx; subst hx
      exact ⟨_, rfl, ⟨.slice (some ⟨w.heap.size, 0, none⟩) 2 2, .slice none 0 0, rfl, ra, Rp.nil_rep, by decide, by decide, by decide, by decide, by decide⟩, rfl⟩
    · injection hx with hx; subst hx
      exact ⟨_, rfl, ⟨.slice none 0 0, .slice none 0 0, rfl, Rp.nil_rep, Rp.nil_rep, by decide, by decide, by decide, by decide, by decide⟩, rfl⟩)
  have rb : RBlks.rep W W.heap.size [.slice (some ⟨w.heap.size + 1 + 1, 0, none⟩) 1 1] l18F.blocks := slice_mk (xs := [[l18A, l18G, l18H]]) (by omega) e2 (Nat.le_refl _) (hml _ (by simp)) (fun i x hx => by
    have : i = 0 := by have := (List.getElem?_eq_some_iff.1 hx).1; simp at this; omega
    subst this
    injection hx with hx; subst hx
    exact ⟨[.slice (some ⟨w.heap.size + 1, 0, none⟩) 3 3], rfl, ri, rfl⟩)
  have hf : Hid (RFun.rep W W.heap.size [.string l18F.name, .slice none 0 0, .int .i64 l18F.ret, .slice (some ⟨w.heap.size + 1 + 1, 0, none⟩) 1 1] l18F) := hide ⟨_, _, rfl, Rp.nil_rep, rb, by decide, by decide⟩
  clear e0 e1 e2 ra ri hml rb
  have hsz : w.heap.size ≤ W.heap.size := by omega
  have hzz : funSz l18F ≤ 2000000 := by decide
  obtain ⟨V, hV, hwV, hVs, hv1, hv2⟩ := boxes2 W #[.int .i64 1, .int .i64 1, .int .u64 0] #[.int .i64 1, .int .i64 2, .int .u64 0] 28 28
  have y0 := hv1 0 _ rfl
  have y1 := hv1 1 _ rfl
  have y2 := hv1 2 _ rfl
  have z0 := hv2 0 _ rfl
  have z1 := hv2 1 _ rfl
  have z2 := hv2 2 _ rfl
  have upV : ∀ w', Below V.heap.size V w' → Below W.heap.size W w' := fun w' h => hwV.trans (h.mono (by omega))
  have k0 : ∀ w', Below V.heap.size V w' → w'.cell? ⟨w.heap.size + 1 + 1 + 1, 0, none⟩ = some (.string ⟨#[102]⟩) := fun w' h => x0 w' (upV w' h)
  have k1 : ∀ w', Below V.heap.size V w' → w'.cell? ⟨w.heap.size + 1 + 1 + 1, 1, none⟩ = some (.slice none 0 0) := fun w' h => x1 w' (upV w' h)
  have k2 : ∀ w', Below V.heap.size V w' → w'.cell? ⟨w.heap.size + 1 + 1 + 1, 2, none⟩ = some (.int .i64 0) := fun w' h => x2 w' (upV w' h)
  have k3 : ∀ w', Below V.heap.size V w' → w'.cell? ⟨w.heap.size + 1 + 1 + 1, 3, none⟩ = some (.slice (some ⟨w.heap.size + 1 + 1, 0, none⟩) 1 1) := fun w' h => x3 w' (upV w' h)
  have cA : Hid (∀ (p q : Opd) (t u r : Int), I64 p.kind ∧ I64 p.num → I64 q.kind ∧ I64 q.num → askS 0 l18B p t q u = r → ∀ w', Below V.heap.size V w' → Calls Try.prog 16 #[.agg #[.string ⟨#[102]⟩, .slice none 0 0, .int .i64 0, .slice (some ⟨w.heap.size + 1 + 1, 0, none⟩) 1 1], .agg #[.int .i64 p.kind, .int .i64 p.num, .int .u64 p.bits], .int .i64 t, .agg #[.int .i64 q.kind, .int .i64 q.num, .int .u64 q.bits], .int .i64 u] w' (RetV (.int .i64 r) w')) := hide (fun p q t u r hp hq hr w' h => by
    have := asked_any l18F p q t u hp hq (.slice none 0 0) (.slice (some ⟨w.heap.size + 1 + 1, 0, none⟩) 1 1) w' w'.heap.size (Nat.le_refl _) (RFun.later hf.out (upV w' h) (upV w' h).size) hzz
    rwa [show l18F.params.length = 0 from rfl, show l18F.blocks = l18B from rfl, hr] at this)
  have cE : Hid (∀ w', Below V.heap.size V w' → Calls Try.prog 19 #[.agg #[.string ⟨#[102]⟩, .slice none 0 0, .int .i64 0, .slice (some ⟨w.heap.size + 1 + 1, 0, none⟩) 1 1], .int .i64 1] w' (RetB false w')) := hide (fun w' h => by
    have := escapes_any l18F 1 (by decide) (.slice none 0 0) (.slice (some ⟨w.heap.size + 1 + 1, 0, none⟩) 1 1) w' w'.heap.size (Nat.le_refl _) (RFun.later hf.out (upV w' h) (upV w' h).size) hzz
    rwa [show l18F.blocks = l18B from rfl, l18_esc] at this)
  have c1 := hide (cA.out ⟨1, 1, 0⟩ ⟨1, 2, 0⟩ 32 32 0 (by decide) (by decide) l18_a1)
  have c2 := hide (cA.out ⟨1, 1, 0⟩ ⟨1, 2, 0⟩ 64 32 1 (by decide) (by decide) l18_a2)
  have c3 := hide (cA.out ⟨1, 2, 0⟩ ⟨1, 2, 0⟩ 32 32 2 (by decide) (by decide) l18_a3)
  have hlast : Hid (Below w.heap.size w V) := hide (hwW.trans (hwV.mono hsz))
  have hlz : Hid (w.heap.size ≤ V.heap.size) := hide hlast.out.size
  have hself := Below.refl V.heap.size V
  replace hWs := hide hWs
  replace hVs := hide hVs
  replace hwW := hide hwW
  replace hwV := hide hwV
  replace hV := hide hV
  clear hv1 hv2 hf x0 x1 x2 x3 upV cA hzz
  go_enter Try.func14, Try.ntmps14
  go_upto_region 2 with (fail)
  try rw [hW]
  clear hW
  go_upto_region 3 with (fail)
  rw [hV.out]
  clear hV
  go_wp2_with (fail)
  refine (c1.out _ hself).mono ?_
  rintro e w1 ⟨rfl, hb1⟩
  go_wp2_with (fail)
  refine (c2.out _ hb1).mono ?_
  rintro e w2 ⟨rfl, hb2⟩
  have hk2 := hb1.trans (hb2.mono hb1.size)
  go_wp2_with (fail)
  refine (c3.out _ hk2).mono ?_
  rintro e w3 ⟨rfl, hb3⟩
  have hk3 := hk2.trans (hb3.mono hk2.size)
  go_wp2_with (fail)
  refine (cE.out _ hk3).mono ?_
  rintro e w4 ⟨rfl, hb4⟩
  have hk4 := hk3.trans (hb4.mono hk3.size)
  go_wp2
  go_ret
  exact ⟨rfl, hlast.out.trans (hk4.mono hlz.out)⟩
end Go.Proofs.Ytaljdbmmjgmbbaa
