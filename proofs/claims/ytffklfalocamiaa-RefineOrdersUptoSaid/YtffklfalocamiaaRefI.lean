/- Walks of lathelaw12.lives and of the laws RefineTells, RefineOrders. No condition. -/
import Derived.Test.YtffklfalocamiaaRefH
import Derived.Test.YtffklfalocamiaaRefE
namespace Go.Proofs.Ytffklfalocamiaa
open Go.RowKit

set_option maxHeartbeats 800000 in
theorem lives12 (w : World) : Calls Try.prog 15 #[] w fun e w' => e = .returned (.bool true) ∧ Below w.heap.size w w' := by
  have V1 : ∀ w, Calls Try.prog 17 #[.agg #[.int .i64 0, .int .u64 0, .int .i64 0, .int .i64 0], .agg #[.int .i64 1, .int .u64 5, .int .i64 0, .int .i64 0]] w fun e w' => e = .returned (.bool true) ∧ Below w.heap.size w w' := fun w => value_any ⟨0, 0, 0, 0⟩ ⟨1, 5, 0, 0⟩ w
  have V2 : ∀ w, Calls Try.prog 17 #[.agg #[.int .i64 3, .int .u64 0, .int .i64 0, .int .i64 0], .agg #[.int .i64 1, .int .u64 5, .int .i64 0, .int .i64 0]] w fun e w' => e = .returned (.bool true) ∧ Below w.heap.size w w' := fun w => value_any ⟨3, 0, 0, 0⟩ ⟨1, 5, 0, 0⟩ w
  have V3 : ∀ w, Calls Try.prog 17 #[.agg #[.int .i64 1, .int .u64 5, .int .i64 0, .int .i64 0], .agg #[.int .i64 3, .int .u64 0, .int .i64 0, .int .i64 0]] w fun e w' => e = .returned (.bool false) ∧ Below w.heap.size w w' := fun w => value_any ⟨1, 5, 0, 0⟩ ⟨3, 0, 0, 0⟩ w
  have R1 : ∀ w, Calls Try.prog 21 #[.agg #[.int .i64 1, .int .i64 0, .int .u64 0, .int .i64 0, .int .i64 0, .slice none 0 0, .slice none 0 0, .int .i64 0], .agg #[.int .i64 0, .int .i64 0, .int .u64 0, .int .i64 0, .int .i64 0, .slice none 0 0, .slice none 0 0, .int .i64 0]] w fun e w' => e = .returned (.bool true) ∧ Below w.heap.size w w' :=
    fun w => refines_any ⟨1, ⟨0, 0, 0, 0⟩, [], [], 0⟩ ⟨0, ⟨0, 0, 0, 0⟩, [], [], 0⟩ _ _ _ _ w 0 (Nat.zero_le _) Rp.nil_rep Rp.nil_rep Rp.nil_rep Rp.nil_rep
  have R2 : ∀ w, Calls Try.prog 21 #[.agg #[.int .i64 0, .int .i64 1, .int .u64 5, .int .i64 0, .int .i64 0, .slice none 0 0, .slice none 0 0, .int .i64 0], .agg #[.int .i64 0, .int .i64 0, .int .u64 0, .int .i64 0, .int .i64 0, .slice none 0 0, .slice none 0 0, .int .i64 0]] w fun e w' => e = .returned (.bool false) ∧ Below w.heap.size w w' :=
    fun w => refines_any ⟨0, ⟨1, 5, 0, 0⟩, [], [], 0⟩ ⟨0, ⟨0, 0, 0, 0⟩, [], [], 0⟩ _ _ _ _ w 0 (Nat.zero_le _) Rp.nil_rep Rp.nil_rep Rp.nil_rep Rp.nil_rep
  replace V1 := hide V1
  replace V2 := hide V2
  replace V3 := hide V3
  replace R1 := hide R1
  replace R2 := hide R2
  go_enter Try.func15, Try.ntmps15
  go_wp2_with fail
  obtain ⟨W, hW, hwW, hWs, hx⟩ := boxes1 w #[.int .i64 1, .int .u64 5, .int .i64 0, .int .i64 0] 24
  rw [hW]
  clear hW
  have hsz : w.heap.size ≤ W.heap.size := by omega
  replace hWs := hide hWs
  have x0 := hx 0 _ rfl
  have x1 := hx 1 _ rfl
  have x2 := hx 2 _ rfl
  have x3 := hx 3 _ rfl
  clear hx
  refine (V1.out _).mono ?_
  rintro e w1 ⟨rfl, b1⟩
  go_wp2_with fail
  refine (V2.out _).mono ?_
  rintro e w2 ⟨rfl, c2⟩
  have b2 := below_next b1 (Nat.le_refl _) c2
  go_wp2_with fail
  refine (V3.out _).mono ?_
  rintro e w3 ⟨rfl, c3⟩
  have b3 := below_next b2 (Nat.le_refl _) c3
  go_wp2_with fail
  refine (R1.out _).mono ?_
  rintro e w4 ⟨rfl, c4⟩
  have b4 := below_next b3 (Nat.le_refl _) c4
  go_wp2_with fail
  refine (R2.out _).mono ?_
  rintro e w5 ⟨rfl, c5⟩
  have b5 := below_next b4 (Nat.le_refl _) c5
  go_wp2
  go_ret
  exact ⟨rfl, hwW.trans (b5.mono hsz)⟩

set_option maxHeartbeats 1600000 in
set_option maxRecDepth 100000 in
/-- six boxes, or so: the world behind them under a name, told by 'Below' -/
theorem law_tells (a b : Val) (c d : Byt) (x y : Outc) (ca da cb db : Value) (w : World) (ha : REvts.rep w w.heap.size [ca] x.events) (ha' : RVars.rep w w.heap.size [da] x.vars)
    (hb : REvts.rep w w.heap.size [cb] y.events) (hb' : RVars.rep w w.heap.size [db] y.vars) :
    Calls Try.prog 3 #[a.v, b.v, c.v, d.v, x.v ca da, y.v cb db] w fun e w' => e = .returned (.bool true) ∧ Below w.heap.size w w' := by
  obtain ⟨A1, k1, h1, hm1, _⟩ := Rp.slice_open ha
  obtain ⟨A2, k2, h2, hm2, _⟩ := Rp.slice_open hb
  obtain ⟨A3, k3, h3, _, _⟩ := Rp.slice1_open ha'
  obtain ⟨A4, k4, h4, _, _⟩ := Rp.slice1_open hb'
  cases h1; cases h2; cases h3; cases h4
  replace ha := hide ha
  replace hb := hide hb
  replace ha' := hide ha'
  replace hb' := hide hb'
  go_enter Try.func3, Try.ntmps3
  go_wp2_with fail
  obtain ⟨W, hW, hwW, hWs, ha_, hb_, hc_, hd_, hx_, hy_⟩ := boxes6 w #[.int .i64 a.kind, .int .u64 a.bits, .int .i64 a.block, .int .i64 a.off] #[.int .i64 b.kind, .int .u64 b.bits, .int .i64 b.block, .int .i64 b.off]
    #[.int .i64 c.kind, .int .u8 c.bits, .int .i64 c.block, .int .i64 c.off, .int .i64 c.i] #[.int .i64 d.kind, .int .u8 d.bits, .int .i64 d.block, .int .i64 d.off, .int .i64 d.i]
    #[.int .i64 x.status, .int .i64 x.ret.kind, .int .u64 x.ret.bits, .int .i64 x.ret.block, .int .i64 x.ret.off, .slice A1 x.events.length k1, .slice A3 x.vars.length k3, .int .i64 x.steps]
    #[.int .i64 y.status, .int .i64 y.ret.kind, .int .u64 y.ret.bits, .int .i64 y.ret.block, .int .i64 y.ret.off, .slice A2 y.events.length k2, .slice A4 y.vars.length k4, .int .i64 y.steps]
    24 24 26 26 30 30
  rw [hW]
  clear hW
  have hsz : w.heap.size ≤ W.heap.size := by omega
  replace hWs := hide hWs
  have a0 := ha_ 0 _ rfl
  have a1 := ha_ 1 _ rfl
  have a2 := ha_ 2 _ rfl
  have a3 := ha_ 3 _ rfl
  have b0 := hb_ 0 _ rfl
  have b1 := hb_ 1 _ rfl
  have b2 := hb_ 2 _ rfl
  have b3 := hb_ 3 _ rfl
  have c0 := hc_ 0 _ rfl
  have c1 := hc_ 1 _ rfl
  have c2 := hc_ 2 _ rfl
  have c3 := hc_ 3 _ rfl
  have c4 := hc_ 4 _ rfl
  have d0 := hd_ 0 _ rfl
  have d1 := hd_ 1 _ rfl
  have d2 := hd_ 2 _ rfl
  have d3 := hd_ 3 _ rfl
  have d4 := hd_ 4 _ rfl
  have x0 := hx_ 0 _ rfl
  have x1 := hx_ 1 _ rfl
  have x2 := hx_ 2 _ rfl
  have x3 := hx_ 3 _ rfl
  have x4 := hx_ 4 _ rfl
  have x5 := hx_ 5 _ rfl
  have x6 := hx_ 6 _ rfl
  have x7 := hx_ 7 _ rfl
  have y0 := hy_ 0 _ rfl
  have y1 := hy_ 1 _ rfl
  have y2 := hy_ 2 _ rfl
  have y3 := hy_ 3 _ rfl
  have y4 := hy_ 4 _ rfl
  have y5 := hy_ 5 _ rfl
  have y6 := hy_ 6 _ rfl
  have y7 := hy_ 7 _ rfl
  clear ha_ hb_ hc_ hd_ hx_ hy_
  have hww := Nat.le_refl W.heap.size
  refine (lives12 _).mono ?_
  rintro e w1 ⟨rfl, h1⟩
  have b1 := h1
  go_wp2_with fail
  refine (much_any x _ _ _ W.heap.size h1.size (REvts.later ha.out (hwW.trans (h1.mono hsz)) hsz) (RVars.later ha'.out (hwW.trans (h1.mono hsz)) hsz)).mono ?_
  rintro e w2 ⟨m1, rfl, c2⟩
  have b2 := below_next b1 (Nat.le_refl _) c2
  cases m1 with
  | true =>
    go_wp2
    go_ret
    exact ⟨rfl, hwW.trans (b2.mono hsz)⟩
  | false =>
  go_wp2_with fail
  refine (much_any y _ _ _ W.heap.size b2.size (REvts.later hb.out (hwW.trans (b2.mono hsz)) hsz) (RVars.later hb'.out (hwW.trans (b2.mono hsz)) hsz)).mono ?_
  rintro e w3 ⟨m2, rfl, c3⟩
  have b3 := below_next b2 (Nat.le_refl _) c3
  cases m2 with
  | true =>
    go_wp2
    go_ret
    exact ⟨rfl, hwW.trans (b3.mono hsz)⟩
  | false =>
  go_wp2_with fail
  go_region_held3 (fun w' => Below W.heap.size W w') (first | exact b3.drew | exact below_next (by assumption) hww (by assumption))
    (first
      | (go_at_call 17; refine (value_any a b _).mono ?_; rintro e w4 ⟨rfl, hcall⟩)
      | (go_at_call 18; refine (rvalue_any a b _).mono ?_; rintro e w4 ⟨rfl, hcall⟩)
      | (go_at_call 19; refine (byte_any c d _).mono ?_; rintro e w4 ⟨rfl, hcall⟩)
      | (go_at_call 20; refine (rbyte_any c d _).mono ?_; rintro e w4 ⟨rfl, hcall⟩)
      | (go_at_call 21; refine (refines_any x y _ _ _ _ _ W.heap.size (Below.size (by assumption)) (REvts.later ha.out (hwW.trans (Below.mono (by assumption) hsz)) hsz) (RVars.later ha'.out (hwW.trans (Below.mono (by assumption) hsz)) hsz) (REvts.later hb.out (hwW.trans (Below.mono (by assumption) hsz)) hsz) (RVars.later hb'.out (hwW.trans (Below.mono (by assumption) hsz)) hsz)).mono ?_; rintro e w4 ⟨rfl, hcall⟩)
      | (go_at_call 22; refine (rrefines_any x y _ _ _ _ _ W.heap.size (Below.size (by assumption)) (REvts.later ha.out (hwW.trans (Below.mono (by assumption) hsz)) hsz) (RVars.later ha'.out (hwW.trans (Below.mono (by assumption) hsz)) hsz) (REvts.later hb.out (hwW.trans (Below.mono (by assumption) hsz)) hsz) (RVars.later hb'.out (hwW.trans (Below.mono (by assumption) hsz)) hsz)).mono ?_; rintro e w4 ⟨rfl, hcall⟩))
  go_wp2
  go_ret
  exact ⟨ret_bool (by simp), hwW.trans (Below.mono (by assumption) hsz)⟩
set_option maxHeartbeats 1600000 in
set_option maxRecDepth 100000 in
theorem law_orders (u v z : Val) (a b c : Byt) (x : Outc) (ca da : Value) (w : World) (ha : REvts.rep w w.heap.size [ca] x.events) (ha' : RVars.rep w w.heap.size [da] x.vars) :
    Calls Try.prog 4 #[u.v, v.v, z.v, a.v, b.v, c.v, x.v ca da] w fun e w' => e = .returned (.bool true) ∧ Below w.heap.size w w' := by
  obtain ⟨A1, k1, h1, hm1, _⟩ := Rp.slice_open ha
  obtain ⟨A3, k3, h3, _, _⟩ := Rp.slice1_open ha'
  cases h1; cases h3
  replace ha := hide ha
  replace ha' := hide ha'
  go_enter Try.func4, Try.ntmps4
  go_wp2_with fail
  obtain ⟨W, hW, hwW, hWs, hu_, hv_, hz_, ha_, hb_, hc_, hx_⟩ := boxes7 w #[.int .i64 u.kind, .int .u64 u.bits, .int .i64 u.block, .int .i64 u.off] #[.int .i64 v.kind, .int .u64 v.bits, .int .i64 v.block, .int .i64 v.off] #[.int .i64 z.kind, .int .u64 z.bits, .int .i64 z.block, .int .i64 z.off]
    #[.int .i64 a.kind, .int .u8 a.bits, .int .i64 a.block, .int .i64 a.off, .int .i64 a.i] #[.int .i64 b.kind, .int .u8 b.bits, .int .i64 b.block, .int .i64 b.off, .int .i64 b.i] #[.int .i64 c.kind, .int .u8 c.bits, .int .i64 c.block, .int .i64 c.off, .int .i64 c.i]
    #[.int .i64 x.status, .int .i64 x.ret.kind, .int .u64 x.ret.bits, .int .i64 x.ret.block, .int .i64 x.ret.off, .slice A1 x.events.length k1, .slice A3 x.vars.length k3, .int .i64 x.steps]
    24 24 24 26 26 26 30
  rw [hW]
  clear hW
  have hsz : w.heap.size ≤ W.heap.size := by omega
  replace hWs := hide hWs
  have u0 := hu_ 0 _ rfl
  have u1 := hu_ 1 _ rfl
  have u2 := hu_ 2 _ rfl
  have u3 := hu_ 3 _ rfl
  have v0 := hv_ 0 _ rfl
  have v1 := hv_ 1 _ rfl
  have v2 := hv_ 2 _ rfl
  have v3 := hv_ 3 _ rfl
  have z0 := hz_ 0 _ rfl
  have z1 := hz_ 1 _ rfl
  have z2 := hz_ 2 _ rfl
  have z3 := hz_ 3 _ rfl
  have a0 := ha_ 0 _ rfl
  have a1 := ha_ 1 _ rfl
  have a2 := ha_ 2 _ rfl
  have a3 := ha_ 3 _ rfl
  have a4 := ha_ 4 _ rfl
  have b0 := hb_ 0 _ rfl
  have b1 := hb_ 1 _ rfl
  have b2 := hb_ 2 _ rfl
  have b3 := hb_ 3 _ rfl
  have b4 := hb_ 4 _ rfl
  have c0 := hc_ 0 _ rfl
  have c1 := hc_ 1 _ rfl
  have c2 := hc_ 2 _ rfl
  have c3 := hc_ 3 _ rfl
  have c4 := hc_ 4 _ rfl
  have x0 := hx_ 0 _ rfl
  have x1 := hx_ 1 _ rfl
  have x2 := hx_ 2 _ rfl
  have x3 := hx_ 3 _ rfl
  have x4 := hx_ 4 _ rfl
  have x5 := hx_ 5 _ rfl
  have x6 := hx_ 6 _ rfl
  have x7 := hx_ 7 _ rfl
  clear hu_ hv_ hz_ ha_ hb_ hc_ hx_
  refine (lives12 _).mono ?_
  rintro e w1 ⟨rfl, b1⟩
  go_wp2_with fail
  refine (much_any x _ _ _ W.heap.size b1.size (REvts.later ha.out (hwW.trans (b1.mono hsz)) hsz) (RVars.later ha'.out (hwW.trans (b1.mono hsz)) hsz)).mono ?_
  rintro e w2 ⟨m1, rfl, c2⟩
  have b2 := below_next b1 (Nat.le_refl _) c2
  cases m1 with
  | true =>
    go_wp2
    go_ret
    exact ⟨rfl, hwW.trans (b2.mono hsz)⟩
  | false =>
  have V1 : ∀ w, Calls Try.prog 17 #[u.v, u.v] w fun e w' => e = .returned (.bool true) ∧ Below w.heap.size w w' := fun w => by have := value_any u u w; rwa [rvalue_refl] at this
  have V2 : ∀ w, Calls Try.prog 19 #[a.v, a.v] w fun e w' => e = .returned (.bool true) ∧ Below w.heap.size w w' := fun w => by have := byte_any a a w; rwa [rbyte_refl] at this
  have V3 : ∀ (w' : World), Below W.heap.size W w' → Calls Try.prog 21 #[x.v (.slice A1 x.events.length k1) (.slice A3 x.vars.length k3), x.v (.slice A1 x.events.length k1) (.slice A3 x.vars.length k3)] w' fun e w1 => e = .returned (.bool true) ∧ Below w'.heap.size w' w1 := fun w' hb => by
    have := refines_any x x _ _ _ _ w' W.heap.size hb.size (REvts.later ha.out (hwW.trans (hb.mono hsz)) hsz) (RVars.later ha'.out (hwW.trans (hb.mono hsz)) hsz) (REvts.later ha.out (hwW.trans (hb.mono hsz)) hsz) (RVars.later ha'.out (hwW.trans (hb.mono hsz)) hsz)
    rwa [rrefines_refl] at this
  replace V1 := hide V1
  replace V2 := hide V2
  replace V3 := hide V3
  go_wp2_with fail
  refine (V1.out _).mono ?_
  rintro e w3 ⟨rfl, c3⟩
  have b3 := below_next b2 (Nat.le_refl _) c3
  go_wp2_with fail
  refine (V2.out _).mono ?_
  rintro e w4 ⟨rfl, c4⟩
  have b4 := below_next b3 (Nat.le_refl _) c4
  go_wp2_with fail
  refine (V3.out _ b4).mono ?_
  rintro e w5 ⟨rfl, c5⟩
  have b5 := below_next b4 (Nat.le_refl _) c5
  have K1 : rvalue u v = false ∨ (rvalue u v = true ∧ rvalue v z = false) ∨ (rvalue u v = true ∧ rvalue v z = true ∧ rvalue u z = true) := by
    cases h : rvalue u v <;> cases k : rvalue v z <;> simp
    exact rvalue_trans h k
  have K2 : rbyte a b = false ∨ (rbyte a b = true ∧ rbyte b c = false) ∨ (rbyte a b = true ∧ rbyte b c = true ∧ rbyte a c = true) := by
    cases h : rbyte a b <;> cases k : rbyte b c <;> simp
    exact rbyte_trans h k
  replace K2 := hide K2
  rcases K1 with r1 | ⟨r1, r2⟩ | ⟨r1, r2, r3⟩
  all_goals
    go_wp2_with fail
    refine (value_any u v _).mono ?_
    rintro e w6 ⟨rfl, c6⟩
    have b6 := below_next b5 (Nat.le_refl _) c6
    go_wp2_with fail
  rotate_left 1
  all_goals first
    | (refine (value_any v z _).mono ?_
       rintro e w7 ⟨rfl, c7⟩
       have b7 := below_next b6 (Nat.le_refl _) c7
       go_wp2_with fail)
    | (have b7 := b6)
  all_goals first
    | (refine (value_any u z _).mono ?_
       rintro e w8 ⟨rfl, c8⟩
       have b8 := below_next b7 (Nat.le_refl _) c8
       go_wp2_with fail)
    | (have b8 := b7)
  all_goals
    refine (byte_any a b _).mono ?_
    rintro e w9 ⟨rfl, c9⟩
    have b9 := below_next b8 (Nat.le_refl _) c9
    rcases K2.out with s1 | ⟨s1, s2⟩ | ⟨s1, s2, s3⟩
  all_goals go_wp2_with fail
  all_goals first
    | (refine (byte_any b c _).mono ?_
       rintro e w10 ⟨rfl, c10⟩
       have b10 := below_next b9 (Nat.le_refl _) c10
       go_wp2_with fail)
    | (have b10 := b9)
  all_goals first
    | (refine (byte_any a c _).mono ?_
       rintro e w11 ⟨rfl, c11⟩
       have b11 := below_next b10 (Nat.le_refl _) c11
       go_wp2_with fail)
    | (have b11 := b10)
  all_goals go_ret
  all_goals exact ⟨ret_bool (by simp [*]), hwW.trans (b11.mono hsz)⟩
end Go.Proofs.Ytffklfalocamiaa
