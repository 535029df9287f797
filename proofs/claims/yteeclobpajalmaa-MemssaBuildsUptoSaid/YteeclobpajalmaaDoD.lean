/- dom.meet: two fingers up the tree. No condition but what its lists hold. | dom.Idom. No condition but sizes. -/
import Derived.Test.YteeclobpajalmaaDoB
import Derived.Test.YteeclobpajalmaaGrO
import Derived.Test.YteeclobpajalmaaGrJ
namespace Go.Proofs.Yteeclobpajalmaa
open Go.RowKit
set_option linter.unusedSimpArgs false
set_option linter.unusedVariables false

theorem bdn {B : Nat} {w w' : World} (h : Below B w w') (n : Nat) : Below B w (w'.drewN n) := ⟨h.os, h.tape, h.output, h.size, h.block⟩
/-- the list of ranks -/
def RankOk (o : List Int) (n : Nat) (R : List Int) : Prop := R.length = n ∧ ∀ (i : Nat) b, o[i]? = some b → R[b.toNat]? = some (i : Int)
theorem RankOk.at_ {o R : List Int} {n : Nat} {b : Int} (h : RankOk o n R) (hb : b ∈ o) : R[b.toNat]? = some ((o.idxOf b : Nat) : Int) := h.2 _ _ (at_idx hb)
def MeetPost (U : Int → Int) (a b : Int) (w : World) (e : Ending) (w' : World) : Prop := ∃ m : Int, e = .returned (.int .i64 m) ∧ Nca U a b m ∧ 0 ≤ m ∧ 0 ≤ U m ∧ Below w.heap.size w w'

set_option maxRecDepth 100000 in
set_option maxHeartbeats 3200000 in
theorem meet_any (sc : Int → List Int) (o l R : List Int) (n g g' : Nat) (a b : Int) (w : World) (hn : l.length = n) (hn9 : n ≤ 2000000) (T : Tree sc o (fun b => o.idxOf b) (upF l)) (P : Ord sc o (fun b => o.idxOf b)) (hR : RankOk o n R)
    (ha : 0 ≤ upF l a) (hb : 0 ≤ upF l b) (hu : ∀ (k : Nat) x, l[k]? = some x → ∀ w', Below w.heap.size w w' → w'.cell? ⟨g, k, none⟩ = some (.int .i64 x)) (hr : ∀ (k : Nat) x, R[k]? = some x → ∀ w', Below w.heap.size w w' → w'.cell? ⟨g', k, none⟩ = some (.int .i64 x)) :
    Calls Try.prog 121 #[.slice (some ⟨g, 0, none⟩) n n, .slice (some ⟨g', 0, none⟩) n n, .int .i64 a, .int .i64 b] w (MeetPost (upF l) a b w) := by
  have hself := Below.refl w.heap.size w
  have hRl := hR.1
  replace hR := hide hR
  replace T := hide T
  replace P := hide P
  have huh := hide hu
  have hrh := hide hr
  replace ha := hide ha
  replace hb := hide hb
  clear hu hr
  go_enter Try.func121, Try.ntmps121
  go_wp2
  go_loopw [2, 3] (fun s2 s3 wr => ∃ x y : Int, s2 = .int .i64 x ∧ s3 = .int .i64 y ∧ Hid (0 ≤ upF l x ∧ 0 ≤ upF l y) ∧ Hid (Anc (upF l) x a ∧ Anc (upF l) y b) ∧ Hid (∀ c, Anc (upF l) c a → Anc (upF l) c b → Anc (upF l) c x ∧ Anc (upF l) c y) ∧ Below w.heap.size w wr)
    (fun s2 s3 _ => o.idxOf (intOf s2) + o.idxOf (intOf s3))
  case atStart => exact ⟨a, b, rfl, rfl, hide ⟨ha.out, hb.out⟩, hide ⟨.refl, .refl⟩, hide (fun c h1 h2 => ⟨h1, h2⟩), hself⟩
  case round =>
    obtain ⟨x, y, rfl, rfl, hal, hto, hc, hbel⟩ := hrel
    by_cases hxy : x = y
    · subst hxy
      have hx0 := (upF_get hal.out.1).1
      go_wp2
      go_ret
      exact ⟨x, rfl, ⟨hto.out.1, hto.out.2, fun c h1 h2 => (hc.out c h1 h2).1⟩, hx0, hal.out.1, hbel⟩
    · have hne : (x != y) = true := by simp [hxy]
      have hne2 : Hid (o.idxOf x ≠ o.idxOf y) := hide (fun e => hxy (P.out.inj x y (T.out.mem hal.out.1) (T.out.mem hal.out.2) e))
      obtain ⟨yn, hyn⟩ := Int.eq_ofNat_of_zero_le (upF_get hal.out.2).1
      subst hyn
      obtain ⟨ry, hry⟩ : ∃ ry, Hid (ry = o.idxOf (yn : Int)) := ⟨_, hide rfl⟩
      have r9 := hR.out.at_ (T.out.mem hal.out.2)
      rw [← hry.out, Int.toNat_natCast] at r9
      have hyl := (List.getElem?_eq_some_iff.1 r9).1
      have y1 := hrh.out _ _ r9
      go_wp2
      rename World => wo
      go_loopw [2] (fun s2 wr => ∃ x' : Int, s2 = .int .i64 x' ∧ Hid (0 ≤ upF l x') ∧ Hid (Anc (upF l) x' a) ∧ Hid (∀ c, Anc (upF l) c a → Anc (upF l) c b → Anc (upF l) c x') ∧ Hid (o.idxOf x' ≤ o.idxOf x) ∧ Below w.heap.size w wr)
        (fun s2 _ => o.idxOf (intOf s2))
      case atStart => exact ⟨x, rfl, hide hal.out.1, hide hto.out.1, hide (fun c h1 h2 => (hc.out c h1 h2).1), hide (Nat.le_refl _), hbel⟩
      case round =>
        clear hbel
        obtain ⟨x', rfl, hal', hto', hc', hle', hbel⟩ := hrel
        obtain ⟨xn, hxn⟩ := Int.eq_ofNat_of_zero_le (upF_get hal'.out).1
        subst hxn
        obtain ⟨rx, hrx⟩ : ∃ rx, Hid (rx = o.idxOf (xn : Int)) := ⟨_, hide rfl⟩
        have r8 := hR.out.at_ (T.out.mem hal'.out)
        rw [← hrx.out, Int.toNat_natCast] at r8
        have hxl := (List.getElem?_eq_some_iff.1 r8).1
        have x1 := hrh.out _ _ r8
        by_cases hgt : ry < rx
        · obtain ⟨u1, u2, u3, u4⟩ := T.out.climb hal'.out hal.out.2 (by show o.idxOf (yn : Int) < o.idxOf (xn : Int); rw [← hry.out, ← hrx.out]; exact hgt)
          have u5 := (upF_get hal'.out).2
          rw [Int.toNat_natCast] at u5
          obtain ⟨ux, hux⟩ : ∃ ux, Hid (ux = upF l xn) := ⟨_, hide rfl⟩
          rw [← hux.out] at u2 u3 u4 u5
          have x2 := huh.out _ _ u5
          have u6 : Hid (Anc (upF l) ux a) := hide ((show Anc (upF l) ux (xn : Int) from .up u1 (by rw [← hux.out]; exact .refl)).trans hto'.out)
          have u7 : Hid (∀ c, Anc (upF l) c a → Anc (upF l) c b → Anc (upF l) c ux) := hide (fun c h1 h2 => u4 c (hc'.out c h1 h2) ((hc.out c h1 h2).2))
          have u8 : Hid (o.idxOf ux < o.idxOf (xn : Int)) := hide u3
          have u9 : Hid (o.idxOf ux ≤ o.idxOf x) := hide (by have := u8.out; have := hle'.out; omega)
          replace u2 := hide u2
          clear u1 u3 u4 u5
          have hgt' : ((rx : Nat) : Int) > ((ry : Nat) : Int) := by omega
          go_upto_region 2 with (fail)
          go_quiet (fail)
          go_wp2
          go_roundw
          case rel => exact ⟨ux, rfl, u2, u6, u7, u9, bdn hbel _⟩
          case measure => exact u8.out
        · have hgt' : ¬ ((rx : Nat) : Int) > ((ry : Nat) : Int) := by omega
          go_upto_region 2 with (fail)
          go_quiet (fail)
          go_wp2
          have hbel2 := bdn hbel nq
          have hle2 : Hid (o.idxOf (xn : Int) ≤ ry) := hide (by rw [← hrx.out]; omega)
          clear hbel hgt hgt' x1 r8 hxl
          rename World => wi
          generalize wi.drewN nq = wz at hbel2 ⊢
          go_loopw [3] (fun s3 wr => ∃ y' : Int, s3 = .int .i64 y' ∧ Hid (0 ≤ upF l y') ∧ Hid (Anc (upF l) y' b) ∧ Hid (∀ c, Anc (upF l) c a → Anc (upF l) c b → Anc (upF l) c y') ∧ Hid (o.idxOf y' ≤ ry) ∧ Below w.heap.size w wr)
            (fun s3 _ => o.idxOf (intOf s3))
          case atStart => exact ⟨yn, rfl, hide hal.out.2, hide hto.out.2, hide (fun c h1 h2 => (hc.out c h1 h2).2), hide (by rw [hry.out]; exact Nat.le_refl _), hbel2⟩
          case round =>
            clear hbel2 y1 hyl r9
            obtain ⟨y', rfl, haly, htoy, hcy, hley, hbel⟩ := hrel
            obtain ⟨ym, hym⟩ := Int.eq_ofNat_of_zero_le (upF_get haly.out).1
            subst hym
            obtain ⟨rm, hrm⟩ : ∃ rm, Hid (rm = o.idxOf (ym : Int)) := ⟨_, hide rfl⟩
            have r7 := hR.out.at_ (T.out.mem haly.out)
            rw [← hrm.out, Int.toNat_natCast] at r7
            have hyl7 := (List.getElem?_eq_some_iff.1 r7).1
            have y3 := hrh.out _ _ r7
            have r8 := hR.out.at_ (T.out.mem hal'.out)
            rw [← hrx.out, Int.toNat_natCast] at r8
            have hxl := (List.getElem?_eq_some_iff.1 r8).1
            have x1 := hrh.out _ _ r8
            by_cases hgt : rx < rm
            · obtain ⟨u1, u2, u3, u4⟩ := T.out.climb haly.out hal'.out (by show o.idxOf (xn : Int) < o.idxOf (ym : Int); rw [← hrm.out, ← hrx.out]; exact hgt)
              have u5 := (upF_get haly.out).2
              rw [Int.toNat_natCast] at u5
              obtain ⟨ux, hux⟩ : ∃ ux, Hid (ux = upF l ym) := ⟨_, hide rfl⟩
              rw [← hux.out] at u2 u3 u4 u5
              have x2 := huh.out _ _ u5
              have hyl5 := (List.getElem?_eq_some_iff.1 u5).1
              have u6 : Hid (Anc (upF l) ux b) := hide ((show Anc (upF l) ux (ym : Int) from .up u1 (by rw [← hux.out]; exact .refl)).trans htoy.out)
              have u7 : Hid (∀ c, Anc (upF l) c a → Anc (upF l) c b → Anc (upF l) c ux) := hide (fun c h1 h2 => u4 c (hcy.out c h1 h2) (hc'.out c h1 h2))
              have u8 : Hid (o.idxOf ux < o.idxOf (ym : Int)) := hide u3
              have u9 : Hid (o.idxOf ux ≤ ry) := hide (by have := u8.out; have := hley.out; omega)
              replace u2 := hide u2
              clear u1 u3 u4 u5
              have hgt' : ((rm : Nat) : Int) > ((rx : Nat) : Int) := by omega
              go_upto_region 4 with (fail)
              go_quiet (fail)
              go_wp2
              go_roundw
              case rel => exact ⟨ux, rfl, u2, u6, u7, u9, bdn hbel _⟩
              case measure => exact u8.out
            · have hgt' : ¬ ((rm : Nat) : Int) > ((rx : Nat) : Int) := by omega
              go_upto_region 4 with (fail)
              go_quiet (fail)
              go_wp2
              have h8 : o.idxOf (ym : Int) ≤ rx := by rw [← hrm.out]; omega
              have h9 : o.idxOf (xn : Int) + o.idxOf (ym : Int) < o.idxOf x + o.idxOf (yn : Int) := by
                have g1 := hrx.out
                have g2 := hry.out
                have g3 := hle2.out
                have g4 := hle'.out
                have g5 := hley.out
                have g6 := hne2.out
                omega
              go_roundw
              case rel => exact ⟨xn, ym, rfl, rfl, hide ⟨hal'.out, haly.out⟩, hide ⟨hto'.out, htoy.out⟩, hide (fun c h1 h2 => ⟨hc'.out c h1 h2, hcy.out c h1 h2⟩), bdn hbel _⟩
              case measure => exact h9
end Go.Proofs.Yteeclobpajalmaa

namespace Go.Proofs.Yteeclobpajalmaa
open Go.RowKit
set_option linter.unusedSimpArgs false
set_option linter.unusedVariables false

theorem made_zeros {w : World} {B g n : Nat} (h : w.ownsRow B 3 1 (.slice (some ⟨g, 0, none⟩) n n) n (madeCells #[Value.int .i64 0] n).toList) : w.ownsRow B 3 1 (.slice (some ⟨g, 0, none⟩) n n) n ((List.replicate n (0 : Int)).map fun z => Value.int .i64 z) := by
  rw [toList_madeCells_one] at h
  rw [List.map_replicate]
  exact h
/-- an owned row of n numbers, in a block of its own -/
def OwnN (w : World) (B g n : Nat) (l : List Int) : Prop := w.ownsRow B 3 1 (.slice (some ⟨g, 0, none⟩) n n) n (l.map fun z => Value.int .i64 z)
section
variable {w w' : World} {B g n : Nat} {l : List Int}
theorem OwnN.len (h : OwnN w B g n l) : l.length = n := by have := h.1; simpa using this
theorem OwnN.cell (h : OwnN w B g n l) {k : Nat} {x : Int} (hk : l[k]? = some x) : w.cell? ⟨g, k, none⟩ = some (.int .i64 x) := by
  have := (List.getElem?_eq_some_iff.1 hk).1
  have hl := h.len
  rw [World.ownsRow.cellAt h k (by omega), List.getElem?_map, hk]; rfl
theorem OwnN.free (h : OwnN w B g n l) (k : Nat) : w.frozen? ⟨g, k, none⟩ = false := World.ownsRow.frozenAt h k
theorem OwnN.set_ (h : OwnN w B g n l) (k : Nat) (x : Int) : OwnN (w.setCell ⟨g, k, none⟩ (.int .i64 x)) B g n (l.set k x) := by
  have st := (World.ownsRow.stored h k (.int .i64 x)).1
  unfold OwnN
  rwa [List.map_set]
theorem OwnN.keep (h : OwnN w B g n l) (hk : w'.heap[g]? = w.heap[g]?) : OwnN w' B g n l := row_kept h fun k e => by cases e; exact hk
theorem OwnN.lt (h : OwnN w B g n l) : B ≤ g ∧ g < w.heap.size := ⟨(row_lt h rfl).1, (row_lt h rfl).2.1⟩
theorem OwnN.below (h : OwnN w B g n l) (hb : Below w.heap.size w w') : OwnN w' B g n l := h.keep (hb.block g h.lt.2)
theorem OwnN.reads (h : OwnN w B g n l) : ∀ (k : Nat) x, l[k]? = some x → ∀ w', Below w.heap.size w w' → w'.cell? ⟨g, k, none⟩ = some (.int .i64 x) := fun k x hk w' hb => (h.below hb).cell hk
theorem OwnN.mono {B' : Nat} (h : OwnN w B g n l) (hb : B' ≤ B) : OwnN w B' g n l := row_mono h hb
end
def IdomPost (sc : Int → List Int) (o : List Int) (n : Nat) (w : World) (e : Ending) (w' : World) : Prop := ∃ g l, e = .returned (.slice (some ⟨g, 0, none⟩) n n) ∧ IdomOk sc o n l ∧ OwnN w' w.heap.size g n l ∧ Below w.heap.size w w'
set_option maxRecDepth 100000 in
set_option maxHeartbeats 12800000 in
theorem idom_any (f : Fun) (c1 c2 : Value) (w : World) (B : Nat) (hB : B ≤ w.heap.size) (hf : RFun.rep w B [.string f.name, c1, .int .i64 f.ret, c2] f) (hs : Small f) :
    Calls Try.prog 93 #[f.v c1 c2] w (IdomPost (succsF f.blocks) (orderF f.blocks) f.blocks.length w) := by
  obtain ⟨hp, hb⟩ := fun_open (RFun.later hf (Below.refl _ _) hB)
  obtain ⟨A1, k1, h1, -, -⟩ := Rp.slice1_open hp
  obtain ⟨A2, k2, h2, hm2, -⟩ := Rp.slice1_open hb
  cases h1; cases h2
  clear hp hb
  obtain ⟨i0, hi0, hz0, hz1, hz2⟩ := cinfo_parts cinfo_int
  replace hi0 := hide hi0
  replace hz0 := hide hz0
  replace hz1 := hide hz1
  replace hz2 := hide hz2
  obtain ⟨n, hn⟩ : ∃ n, Hid (n = f.blocks.length) := ⟨_, hide rfl⟩
  have hnle : n ≤ 2000000 := by rw [hn.out]; exact hs.blocks
  obtain ⟨O, hO⟩ : ∃ O, Hid (O = orderF f.blocks) := ⟨_, hide rfl⟩
  obtain ⟨sc, hsc⟩ : ∃ sc, Hid (sc = succsF f.blocks) := ⟨_, hide rfl⟩
  obtain ⟨P, hP⟩ : ∃ P, Hid (P = predsL sc n) := ⟨_, hide rfl⟩
  have hPl : P.length = n := by rw [hP.out, predsL_len]
  have hok : Hid (OrderOk n sc O) := hide (by rw [hO.out, hn.out, hsc.out]; exact order_ok _)
  have hol : O.length ≤ n := by rw [hO.out, hn.out]; exact order_len _
  rw [← hn.out, ← hO.out, ← hsc.out]
  rw [← hn.out] at hf hm2
  obtain ⟨W, hW, hwW, hWs, hx⟩ := boxes1 w #[.string f.name, .slice A1 f.params.length k1, .int .i64 f.ret, .slice A2 n k2] 25
  have q0 : ∀ w', Below W.heap.size W w' → w'.cell? ⟨w.heap.size, 0, none⟩ = some (.string f.name) := hx 0 _ rfl
  have q1 : ∀ w', Below W.heap.size W w' → w'.cell? ⟨w.heap.size, 1, none⟩ = some (.slice A1 f.params.length k1) := hx 1 _ rfl
  have q2 : ∀ w', Below W.heap.size W w' → w'.cell? ⟨w.heap.size, 2, none⟩ = some (.int .i64 f.ret) := hx 2 _ rfl
  have q3 : ∀ w', Below W.heap.size W w' → w'.cell? ⟨w.heap.size, 3, none⟩ = some (.slice A2 n k2) := hx 3 _ rfl
  clear hx
  have hws : w.heap.size ≤ W.heap.size := by omega
  replace hWs := hide hWs
  have hself := Below.refl W.heap.size W
  have cO : Hid (∀ w', Below W.heap.size W w' → Calls Try.prog 61 #[f.v (.slice A1 f.params.length k1) (.slice A2 n k2)] w' (OrdPost O w')) := hide (fun w' h => by
    have hh := hwW.trans (h.mono hws)
    have := order_any f (.slice A1 f.params.length k1) (.slice A2 n k2) w' w'.heap.size (Nat.le_refl _) (RFun.later hf (hh.mono hB) (Nat.le_trans hB hh.size)) hs
    rwa [← hO.out] at this)
  have cP : Hid (∀ w', Below W.heap.size W w' → Calls Try.prog 36 #[f.v (.slice A1 f.params.length k1) (.slice A2 n k2)] w' (PredPost n P w')) := hide (fun w' h => by
    have hh := hwW.trans (h.mono hws)
    have := preds_any f (.slice A1 f.params.length k1) (.slice A2 n k2) w' w'.heap.size (Nat.le_refl _) (RFun.later hf (hh.mono hB) (Nat.le_trans hB hh.size)) hs
    rwa [← hn.out, ← hsc.out, ← hP.out] at this)
  replace hs := hide hs
  replace hf := hide hf
  replace hwW := hide hwW
  go_enter Try.func93, Try.ntmps93
  go_wp2_with (fail)
  refine (cO.out _ hself).mono ?_
  rintro e w3 ⟨c, rfl, hO3, hb3⟩
  obtain ⟨Ac, kc, hcf⟩ := row_form hO3.row
  subst hcf
  go_wp2_with (fail)
  refine (cP.out _ hb3).mono ?_
  rintro e X ⟨gp, cs, rfl, hL4, hb4⟩
  have hbX := hb3.trans (hb4.mono hb3.size)
  have hO4 := hO3.kept (w' := X) fun k _ hk => hb4.block k hk
  obtain ⟨A', k', e9, hOr⟩ := int_reads hO4
  cases e9
  have hPr := rows_reads hL4 hPl
  have hsX := hbX.size
  clear hO3 hO4 hb3 hb4 hself q0 q1 q2 q3 cO cP
  replace hOr := hide hOr
  replace hPr := hide hPr
  replace hL4 := hide hL4
  replace hbX := hide hbX
  go_wp2_with (at_make; refine wpList_make_full _ rfl (.tmp 24) (.tmp 24) _ rfl X.heap.size 3 i0 _ 1 Try.underlying22 hi0.out hz0.out hz1.out .i64 .i64 n n n rfl rfl rfl rfl ?c1 ?c2 (Nat.le_refl _) ?_)
  case c1 => rw [hz2.out]; omega
  case c2 => unfold maxLen; omega
  intro w5 hown5 hg5
  have hb5 := below_grown0 hg5
  have hN5 : Hid (OwnN w5 X.heap.size X.heap.size n (List.replicate n 0)) := hide (made_zeros hown5)
  have hs5 : X.heap.size < w5.heap.size := hN5.out.lt.2
  clear hown5 hg5
  go_wp2_with (at_make; refine wpList_make_full _ rfl (.tmp 26) (.tmp 26) _ rfl w5.heap.size 3 i0 _ 1 Try.underlying22 hi0.out hz0.out hz1.out .i64 .i64 n n n rfl rfl rfl rfl ?c1 ?c2 (Nat.le_refl _) ?_)
  case c1 => rw [hz2.out]; omega
  case c2 => unfold maxLen; omega
  intro w6 hown6 hg6
  have hb6 := below_grown0 hg6
  have hN6 : Hid (OwnN w6 w5.heap.size w5.heap.size n (List.replicate n 0)) := hide (made_zeros hown6)
  have hN56 : Hid (OwnN w6 X.heap.size X.heap.size n (List.replicate n 0)) := hide (hN5.out.below hb6)
  have hs6 : w5.heap.size < w6.heap.size := hN6.out.lt.2
  have hbX6 : Below X.heap.size X w6 := hb5.trans (hb6.mono (Nat.le_of_lt hs5))
  clear hown6 hg6 hb5 hb6 hN5
  go_wp2
  go_loopw [29] (fun s wr => ∃ m : Nat, s = .int .i64 m ∧ m ≤ n ∧ Hid (∃ l, (∀ k : Nat, k < m → l[k]? = some (-1)) ∧ OwnN wr w5.heap.size w5.heap.size n l) ∧ Only (fun k => k = w5.heap.size) w6.heap.size w6 wr) (fun s _ => n - (intOf s).toNat)
  case atStart => exact ⟨0, rfl, Nat.zero_le _, hide ⟨_, fun k hk => by omega, hN6.out⟩, Only.refl _ _ _⟩
  case round =>
    obtain ⟨m, rfl, hm, hl, hOn⟩ := hrel
    by_cases hlt : m < n
    · obtain ⟨l, hl1, hl2⟩ := hl.out
      have hll := hl2.len
      obtain ⟨x, hx⟩ := get_ex (l := l) (k := m) (by omega)
      have c0 := hl2.cell hx.out
      have c1 := hl2.free m
      have st := hide (hl2.set_ m (-1))
      have hl3 : Hid (∀ k : Nat, k < m + 1 → (l.set m (-1))[k]? = some (-1)) := hide (fun k hk => by
        by_cases e : k = m
        · subst e; rw [List.getElem?_set_self (by omega)]
        · rw [List.getElem?_set_ne (by omega)]; exact hl1 k (by omega))
      have hO2 := hide (hOn.setCell (p := ⟨w5.heap.size, m, none⟩) (.inl rfl) (.int .i64 (-1)))
      have hmi : (m : Int) < (n : Int) := by omega
      replace hl2 := hide hl2
      clear hl hl1
      go_wp2
      go_roundw
      case rel => exact ⟨m + 1, by go_num, hlt, hide ⟨_, hl3.out, st.out⟩, hO2.out⟩
      case measure => simp [intOf]; omega
    · obtain rfl : m = n := by omega
      rename World => Y
      have hY : Hid (OwnN Y w5.heap.size w5.heap.size m (List.replicate m (-1))) := hide (by
        obtain ⟨l, hl1, hl2⟩ := hl.out
        have e : l = List.replicate m (-1) := List.ext_getElem? fun k => by
          have hll := hl2.len
          by_cases hk : k < m
          · rw [hl1 k hk, List.getElem?_replicate, if_pos hk]
          · rw [List.getElem?_eq_none (by omega), List.getElem?_eq_none (by simp; omega)]
        rwa [e] at hl2)
      have hYR : Hid (OwnN Y X.heap.size X.heap.size m (List.replicate m 0)) := hide (hN56.out.keep (hOn.block _ (by omega) (by omega)))
      have hbY : Below X.heap.size X Y := hbX6.trans (hOn.to_below (fun k hk => by have : k = w5.heap.size := hk; omega) (by omega))
      have hsY := hOn.size
      clear hl hOn hN6 hN56 hbX6 hlt hm
      go_wp2
      have oR : ∀ (i : Nat) x, O[i]? = some x → ∃ g, Ac = some ⟨g, 0, none⟩ ∧ ∀ w', Below X.heap.size X w' → w'.cell? ⟨g, i, none⟩ = some (.int .i64 x) := fun i x hx => by
        obtain ⟨g, h1, h2⟩ := hOr.out (by have := (List.getElem?_eq_some_iff.1 hx).1; omega)
        exact ⟨g, h1, h2 i x hx⟩
      replace oR := hide oR
      go_loopw [38] (fun s wr => ∃ j : Nat, s = .int .i64 j ∧ j ≤ O.length ∧ Hid (∃ R, (∀ (i : Nat) b, i < j → O[i]? = some b → R[b.toNat]? = some (i : Int)) ∧ OwnN wr X.heap.size X.heap.size m R) ∧ Only (fun k => k = X.heap.size) Y.heap.size Y wr) (fun s _ => O.length - (intOf s).toNat)
      case atStart => exact ⟨0, rfl, Nat.zero_le _, hide ⟨_, fun i b hi => by omega, hYR.out⟩, Only.refl _ _ _⟩
      case round =>
        obtain ⟨j, rfl, hj, hl, hOn⟩ := hrel
        by_cases hlt : j < O.length
        · obtain ⟨R, hl1, hl2⟩ := hl.out
          have hll := hl2.len
          obtain ⟨b, hb⟩ := get_ex (l := O) (k := j) hlt
          obtain ⟨b0, b9⟩ := hok.out.bound b (List.mem_of_getElem? hb.out)
          obtain ⟨bn, hbn⟩ := Int.eq_ofNat_of_zero_le b0
          subst hbn
          have hbm : bn < m := by omega
          obtain ⟨go_, hgo, r0⟩ := oR.out j _ hb.out
          subst hgo
          have rb := r0 _ (hbY.trans (hOn.to_below (B' := X.heap.size) (fun k hk => by have : k = X.heap.size := hk; omega) (by omega)))
          obtain ⟨x, hx⟩ := get_ex (l := R) (k := bn) (by omega)
          have c0 := hl2.cell hx.out
          have c1 := hl2.free bn
          have st := hide (hl2.set_ bn (j : Int))
          have hl3 : Hid (∀ (i : Nat) b, i < j + 1 → O[i]? = some b → (R.set bn (j : Int))[b.toNat]? = some (i : Int)) := hide (fun i b hi hb2 => by
            by_cases e : i = j
            · subst e
              have : b = (bn : Int) := by have := hb.out; rw [hb2] at this; exact Option.some.inj this
              subst this
              rw [Int.toNat_natCast, List.getElem?_set_self (by omega)]
            · have hbb := hok.out.bound b (List.mem_of_getElem? hb2)
              have : b.toNat ≠ bn := fun e2 => by
                have e3 : b = (bn : Int) := by omega
                subst e3
                have g1 := idx_at hok.out.nodup hb2
                have g2 := idx_at hok.out.nodup hb.out
                omega
              rw [List.getElem?_set_ne (fun h => this h.symm)]
              exact hl1 i b (by omega) hb2)
          have hO2 := hide (hOn.setCell (p := ⟨X.heap.size, bn, none⟩) (.inl rfl) (.int .i64 (j : Int)))
          have hmi : (j : Int) < (O.length : Int) := by omega
          replace hl2 := hide hl2
          replace r0 := hide r0
          clear hl hl1 b0 b9
          go_wp2
          go_roundw
          case rel => exact ⟨j + 1, by go_num, hlt, hide ⟨_, hl3.out, st.out⟩, hO2.out⟩
          case measure => simp [intOf]; omega
        · obtain rfl : j = O.length := by omega
          rename World => Z
          obtain ⟨R, hl1, hZR⟩ := hl.out
          have hRk : Hid (RankOk O m R) := hide ⟨hZR.len, fun i b hb => hl1 i b ((List.getElem?_eq_some_iff.1 hb).1) hb⟩
          have hZU : Hid (OwnN Z w5.heap.size w5.heap.size m (List.replicate m (-1))) := hide (hY.out.keep (hOn.block _ (by omega) (by omega)))
          have hbZ : Below X.heap.size X Z := hbY.trans (hOn.to_below (fun k hk => by have : k = X.heap.size := hk; omega) (by omega))
          have hsZ := hOn.size
          replace hZR := hide hZR
          clear hl hl1 hOn hY hYR hbY hlt hj
          obtain ⟨K, hK⟩ : ∃ K, Hid (∀ a b, a ∈ O → b ∈ O → RchW sc a b → RchK sc (fun b => O.idxOf b) a K b) := by obtain ⟨K, h⟩ := steps_k sc (fun b => O.idxOf b) O; exact ⟨K, hide h⟩
          have hRr : Hid (∀ (k : Nat) x, R[k]? = some x → ∀ w', Only (fun k => k = w5.heap.size) Z.heap.size Z w' → w'.cell? ⟨X.heap.size, k, none⟩ = some (.int .i64 x)) := hide (fun k x hk w' h => by
            rw [h.cell (p := ⟨X.heap.size, k, none⟩) (by show X.heap.size < Z.heap.size; omega) (by show ¬ X.heap.size = w5.heap.size; omega)]
            exact hZR.out.cell hk)
          have hbb : Hid (∀ w', Only (fun k => k = w5.heap.size) Z.heap.size Z w' → Below X.heap.size X w') := hide (fun w' h => hbZ.trans (h.to_below (fun k hk => by have : k = w5.heap.size := hk; omega) (by omega)))
          have hPT : Hid (∀ b : Nat, ∀ p, P[b]? = some p → ∀ x, x ∈ O → (x ∈ p ↔ (b : Int) ∈ sc x)) := hide (fun b p hp x hx => by
            rw [hP.out] at hp
            rw [predsL_mem hp]
            have := hok.out.bound x hx
            exact ⟨fun h => h.2.2, fun h => ⟨this.1, this.2, h⟩⟩)
          have hPin : Hid (∀ b : Nat, ∀ p, P[b]? = some p → p.length ≤ m ∧ ∀ x, x ∈ p → 0 ≤ x ∧ x < m) := hide (fun b p hp => by
            rw [hP.out] at hp
            have hin : ∀ x, x ∈ p → 0 ≤ x ∧ x < m := fun x hx => by
              obtain ⟨h1, h2, -⟩ := (predsL_mem hp x).1 hx
              exact ⟨h1, h2⟩
            exact ⟨range_len m p ((predsL_sorted hp).imp fun h => by omega) hin, hin⟩)
          have hOn0 : Hid (0 < m → 0 < O.length) := hide (fun h => List.length_pos_of_mem (ord_ok hok.out h).zero)
          replace hsZ := hide hsZ
          clear hZR hbZ
          go_upto_if 49 with (fail)
          go_cut [50, 51] (fun s50 s51 wx => Hid (OwnN wx w5.heap.size w5.heap.size m (firstUp m)) ∧ Hid (Only (fun k => k = w5.heap.size) Z.heap.size Z wx))
          case first =>
            by_cases hm0 : 0 < m
            · have hm0' : (m : Int) > 0 := by omega
              have c0 := hZU.out.cell (k := 0) (x := -1) (by rw [List.getElem?_replicate, if_pos hm0])
              have c1 := hZU.out.free 0
              have st := hide (hZU.out.set_ 0 0)
              have hO2 : Hid (Only (fun k => k = w5.heap.size) Z.heap.size Z (Z.setCell ⟨w5.heap.size, 0, none⟩ (.int .i64 0))) := hide (Only.setCell (p := ⟨w5.heap.size, 0, none⟩) (Only.refl (fun k => k = w5.heap.size) _ _) (.inl rfl) (.int .i64 0))
              go_wp2
              go_meet
              exact ⟨st, hO2⟩
            · obtain rfl : m = 0 := by omega
              go_wp2
              go_meet
              exact ⟨hZU, hide (Only.refl _ _ _)⟩
          case rest =>
            obtain ⟨hU1, hO1⟩ := hcut
            rename World => Z1
            have hG0 : Hid (Good sc O m 0 1 (firstUp m)) := hide ⟨by simp [firstUp], fun h => first_st (ord_ok hok.out h) h⟩
            clear hZU
            go_wp2
            go_loopg [11] (K + 2) (fun g s wr => ∃ (tb : Bool) (k : Nat) (l : List Int), s = .bool tb ∧ Hid (Good sc O m k 1 l) ∧ Hid (OwnN wr w5.heap.size w5.heap.size m l) ∧ Hid (Only (fun k => k = w5.heap.size) Z.heap.size Z wr) ∧ Hid (tb = true → g + k = K + 2 ∧ k ≤ K + 1) ∧ Hid (tb = false → 0 < m → IdomOk sc O m (l.set 0 (-1))))
            case atStart => exact ⟨true, 0, _, rfl, hG0, hU1, hO1, hide (fun _ => ⟨rfl, by omega⟩), hide (fun h => by cases h)⟩
            case round =>
              clear hG0 hU1 hO1
              rename World => V
              obtain ⟨tb, k, l, rfl, hG, hU, hO1, hg, hend⟩ := hrel
              cases tb with
              | false =>
                have hfin : Hid (IdomOk sc O m (l.set 0 (-1))) := hide (by
                  by_cases hm0 : 0 < m
                  · exact hend.out rfl hm0
                  · have hz : m = 0 := by omega
                    have e : O = [] := List.eq_nil_of_length_eq_zero (by omega)
                    have e2 : (l.set 0 (-1)).length = m := by rw [List.length_set]; exact hU.out.len
                    exact idom_none e e2 hz)
                have hbV := hbb.out _ hO1.out
                have hw1 : Hid (w.heap.size ≤ w5.heap.size) := hide (by omega)
                have hbw : Hid (Below w.heap.size w V) := hide (hwW.out.trans ((hbX.out.trans (hbV.mono hsX)).mono hws))
                clear hend hg hbV
                by_cases hm0 : 0 < m
                · have hm0' : (m : Int) > 0 := by omega
                  obtain ⟨x, hx⟩ := get_ex (l := l) (k := 0) (by rw [hU.out.len]; exact hm0)
                  have c0 := hU.out.cell hx.out
                  have c1 := hU.out.free 0
                  have st := hide (hU.out.set_ 0 (-1))
                  have hbw2 : Hid (Below w.heap.size w (V.setCell ⟨w5.heap.size, 0, none⟩ (.int .i64 (-1)))) := hide (hbw.out.setCell (p := ⟨w5.heap.size, 0, none⟩) hw1.out _)
                  go_wp2
                  go_ret
                  exact ⟨_, _, rfl, hfin.out, st.out.mono hw1.out, hbw2.out⟩
                · obtain rfl : m = 0 := by omega
                  have hU2 : Hid (OwnN V w5.heap.size w5.heap.size 0 (l.set 0 (-1))) := hide (by
                    have e : l = [] := List.eq_nil_of_length_eq_zero hU.out.len
                    rw [e] at hU ⊢
                    exact hU.out)
                  go_wp2
                  go_ret
                  exact ⟨_, _, rfl, hfin.out, hU2.out.mono hw1.out, hbw.out⟩
              | true =>
                clear hend
                go_wp2
                go_loopw [11, 55] (fun s11 s55 wr => ∃ (tb2 : Bool) (j : Nat) (l2 : List Int), s11 = .bool tb2 ∧ s55 = .int .i64 j ∧ j ≤ O.length ∧ Hid (Good sc O m k (max 1 j) l2) ∧ Hid (OwnN wr w5.heap.size w5.heap.size m l2) ∧ Hid (Only (fun k => k = w5.heap.size) Z.heap.size Z wr) ∧ Hid (tb2 = true → k ≤ K) ∧ Hid (tb2 = false → 0 < m → Fix sc O (fun b => O.idxOf b) (upF l2) (max 1 j))) (fun _ s _ => O.length - (intOf s).toNat)
                case atStart => exact ⟨false, 0, l, rfl, rfl, Nat.zero_le _, hG, hU, hO1, hide (fun h => by cases h), hide (fun _ hm => fix_one (ord_ok hok.out hm) _)⟩
                case round =>
                  clear hG hU hO1
                  rename World => V2
                  obtain ⟨tb2, j, l2, rfl, rfl, hj, hG, hU, hO1, hk, hF⟩ := hrel
                  by_cases hlt : j < O.length
                  · have hm0 : 0 < m := by omega
                    have hol2 := hol
                    obtain ⟨b, hb⟩ := get_ex (l := O) (k := j) hlt
                    obtain ⟨b0, b9⟩ := hok.out.bound b (List.mem_of_getElem? hb.out)
                    obtain ⟨bn, hbn⟩ := Int.eq_ofNat_of_zero_le b0
                    subst hbn
                    have hbm : bn < m := by omega
                    obtain ⟨go_, hgo, r0⟩ := oR.out j _ hb.out
                    subst hgo
                    have hbX2 := hbb.out _ hO1.out
                    have rb := r0 _ hbX2
                    replace r0 := hide r0
                    have hmi : (j : Int) < (O.length : Int) := by omega
                    have hszV := hO1.out.size
                    by_cases hj0 : j = 0
                    · subst hj0
                      go_wp2
                      go_roundw
                      case rel => exact ⟨tb2, 1, l2, rfl, by go_num, hlt, hG, hU, hO1, hk, hF⟩
                      case measure => simp [intOf]; omega
                    · have hj1 : ((j : Int) == 0) = false := by simp; omega
                      have hmx : Hid (max 1 j = j) := hide (by omega)
                      rw [hmx.out] at hG hF
                      obtain ⟨p, hp⟩ := get_ex (l := P) (k := bn) (by omega)
                      obtain ⟨Ap, Cp, p1, p2⟩ := hPr.out bn p hp.out
                      have rp := p1 _ hbX2
                      obtain ⟨hpl, hpin⟩ := hPin.out bn p hp.out
                      have hbn0 : Hid ((bn : Int) ≠ 0) := hide (fun e => by
                        have h1 := (ord_ok hok.out hm0).first
                        have h2 := idx_at hok.out.nodup hb.out
                        rw [e] at h2
                        have h3 : O.idxOf (0 : Int) = 0 := h1
                        omega)
                      have hS : Hid (St sc O (fun b => O.idxOf b) k j (upF l2)) := hide (hG.out.2 hm0)
                      have hl2 : l2.length = m := hU.out.len
                      have hur : Hid (∀ (k : Nat) x, l2[k]? = some x → ∀ w', Below V2.heap.size V2 w' → w'.cell? ⟨w5.heap.size, k, none⟩ = some (.int .i64 x)) := hide hU.out.reads
                      have hxs : Hid (∀ w', Below V2.heap.size V2 w' → Below X.heap.size X w') := hide (fun w' h => hbX2.trans (h.mono (by have := hsZ.out; omega)))
                      have hrr : Hid (∀ (k : Nat) x, R[k]? = some x → ∀ w', Below V2.heap.size V2 w' → w'.cell? ⟨X.heap.size, k, none⟩ = some (.int .i64 x)) := hide (fun k x hk w' h => hRr.out k x hk w' (hO1.out.then_below (Nat.le_refl _) h))
                      replace hpin := hide hpin
                      replace p1 := hide p1
                      replace p2 := hide p2
                      clear hbX2
                      have hselfV := Below.refl V2.heap.size V2
                      go_wp2
                      go_loopw [14, 67] (fun s14 s67 wr => ∃ (bm : Int) (t : Nat), s14 = .int .i64 bm ∧ s67 = .int .i64 t ∧ t ≤ p.length ∧ Hid (Best (upF l2) (p.take t) bm) ∧ Below V2.heap.size V2 wr) (fun _ s _ => p.length - (intOf s).toNat)
                      case atStart => exact ⟨-1, 0, rfl, rfl, Nat.zero_le _, hide (by rw [List.take_zero]; exact best_nil), hselfV⟩
                      case round =>
                        clear hselfV
                        rename World => V3
                        obtain ⟨bm, t, rfl, rfl, ht, hB, hbel⟩ := hrel
                        by_cases hlt2 : t < p.length
                        · obtain ⟨x, hx⟩ := get_ex (l := p) (k := t) hlt2
                          obtain ⟨x0, x9⟩ := hpin.out x (List.mem_of_getElem? hx.out)
                          obtain ⟨xn, hxn⟩ := Int.eq_ofNat_of_zero_le x0
                          subst hxn
                          have hxm : xn < m := by omega
                          obtain ⟨gp2, hgp2, r2⟩ := p2.out (by omega)
                          subst hgp2
                          have rx := r2 t _ hx.out _ (hxs.out _ hbel)
                          replace r2 := hide r2
                          obtain ⟨y, hy⟩ := get_ex (l := l2) (k := xn) (by omega)
                          have ry := hur.out xn _ hy.out _ hbel
                          have hUy : Hid (upF l2 xn = y) := hide (upF_some hy.out)
                          have htk : Hid (p.take (t + 1) = p.take t ++ [(xn : Int)]) := hide (by rw [List.take_add_one, hx.out]; rfl)
                          have hti : (t : Int) < (p.length : Int) := by omega
                          by_cases hy0 : y < 0
                          · have hB2 : Hid (Best (upF l2) (p.take (t + 1)) bm) := hide (by rw [htk.out]; exact hB.out.skip (by rw [hUy.out]; exact hy0))
                            go_wp2
                            go_roundw
                            case rel => exact ⟨bm, t + 1, rfl, by go_num, hlt2, hB2, hbel⟩
                            case measure => simp [intOf]; omega
                          · by_cases hbm0 : bm < 0
                            · have hB2 : Hid (Best (upF l2) (p.take (t + 1)) (xn : Int)) := hide (by rw [htk.out]; exact hB.out.first hbm0 x0 (by rw [hUy.out]; omega))
                              go_wp2
                              go_roundw
                              case rel => exact ⟨xn, t + 1, rfl, by go_num, hlt2, hB2, hbel⟩
                              case measure => simp [intOf]; omega
                            · have hUb : Hid (0 ≤ upF l2 bm) := hide (hB.out.alive (by omega))
                              have hUx : Hid (0 ≤ upF l2 xn) := hide (by rw [hUy.out]; omega)
                              have cM : Hid (Calls Try.prog 121 #[.slice (some ⟨w5.heap.size, 0, none⟩) m m, .slice (some ⟨X.heap.size, 0, none⟩) m m, .int .i64 bm, .int .i64 xn] V3 (MeetPost (upF l2) bm xn V3)) := hide (meet_any sc O l2 R m _ _ bm xn V3 hl2 hnle hS.out.tree (ord_ok hok.out hm0) hRk.out hUb.out hUx.out (fun k x hk w' h => hur.out k x hk w' (hbel.trans (h.mono hbel.size))) (fun k x hk w' h => hrr.out k x hk w' (hbel.trans (h.mono hbel.size))))
                              go_wp2_with (fail)
                              refine (cM.out).mono ?_
                              rintro e V4 ⟨m', rfl, hn, hm'0, hm'u, hb4⟩
                              have hB2 : Hid (Best (upF l2) (p.take (t + 1)) m') := hide (by rw [htk.out]; exact hB.out.next (by omega) hUx.out hn hm'0 hm'u)
                              have hbel2 := hbel.trans (hb4.mono hbel.size)
                              replace hn := hide hn
                              replace hm'u := hide hm'u
                              clear hb4
                              go_wp2
                              go_roundw
                              case rel => exact ⟨m', t + 1, rfl, by go_num, hlt2, hB2, hbel2⟩
                              case measure => simp [intOf]; omega
                        · obtain rfl : t = p.length := by omega
                          rw [List.take_length] at hB
                          obtain ⟨y, hy⟩ := get_ex (l := l2) (k := bn) (by omega)
                          have hUV : Hid (OwnN V3 w5.heap.size w5.heap.size m l2) := hide (hU.out.below hbel)
                          have hOV : Hid (Only (fun k => k = w5.heap.size) Z.heap.size Z V3) := hide (hO1.out.then_below (Nat.le_refl _) hbel)
                          have hUy : Hid (upF l2 bn = y) := hide (upF_some hy.out)
                          have ry := hUV.out.cell hy.out
                          have hbO := hide (List.mem_of_getElem? hb.out)
                          have hrk : Hid (O.idxOf (bn : Int) = j) := hide (idx_at hok.out.nodup hb.out)
                          have hps := hPT.out bn p hp.out
                          have hSn : Hid (St sc O (fun b => O.idxOf b) k (j + 1) (updF (upF l2) bn bm)) := hide (hS.out.next (ord_ok hok.out hm0) hbO.out hbn0.out hrk.out hps hB.out)
                          have hmx2 : Hid (max 1 (j + 1) = j + 1) := hide (by omega)
                          replace hps := hide hps
                          clear hlt2 ht
                          by_cases hyb : y = bm
                          · have hG2 : Hid (Good sc O m k (max 1 (j + 1)) l2) := hide ⟨hl2, fun _ => by
                              have h1 := hSn.out
                              rw [updF_same (by rw [hUy.out]; exact hyb)] at h1
                              rw [hmx2.out]; exact h1⟩
                            have hF2 : Hid (tb2 = false → 0 < m → Fix sc O (fun b => O.idxOf b) (upF l2) (max 1 (j + 1))) := hide (fun h1 h2 => by
                              rw [hmx2.out]
                              exact (hF.out h1 h2).step (ord_ok hok.out hm0) hbO.out hrk.out hps.out (by rw [hUy.out, hyb]; exact hB.out))
                            subst hyb
                            go_wp2
                            go_roundw
                            case rel => exact ⟨tb2, j + 1, l2, rfl, by go_num, hlt, hG2, hUV, hOV, hk, hF2⟩
                            case measure => simp [intOf]; omega
                          · have hkK : Hid (k ≤ K) := hide (by
                              by_cases hc : K < k
                              · exact (hyb (hUy.out.symm.trans (hS.out.still (ord_ok hok.out hm0) hbO.out hbn0.out hrk.out hps.out hB.out hK.out hc))).elim
                              · omega)
                            have hG2 : Hid (Good sc O m k (max 1 (j + 1)) (l2.set bn bm)) := hide ⟨by rw [List.length_set]; exact hl2, fun _ => by
                              rw [hmx2.out, upF_set (by omega)]; exact hSn.out⟩
                            have st := hide (hUV.out.set_ bn bm)
                            have hO3 : Hid (Only (fun k => k = w5.heap.size) Z.heap.size Z (V3.setCell ⟨w5.heap.size, bn, none⟩ (.int .i64 bm))) := hide (Only.setCell (p := ⟨w5.heap.size, bn, none⟩) hOV.out (.inl rfl) (.int .i64 bm))
                            have c1 := hUV.out.free bn
                            have hne : (y != bm) = true := by simp [hyb]
                            go_wp2
                            go_roundw
                            case rel => exact ⟨true, j + 1, _, rfl, by go_num, hlt, hG2, st, hO3, hide (fun _ => hkK.out), hide (fun h => by cases h)⟩
                            case measure => simp [intOf]; omega
                  · obtain rfl : j = O.length := by omega
                    have hG2 : Hid (Good sc O m (k + 1) 1 l2) := hide ⟨hG.out.1, fun h => by
                      have h1 := hG.out.2 h
                      have h2 := hOn0.out h
                      rw [show max 1 O.length = O.length by omega] at h1
                      exact h1.pass fun x hx => List.idxOf_lt_length_iff.2 hx⟩
                    have hend2 : Hid (tb2 = false → 0 < m → IdomOk sc O m (l2.set 0 (-1))) := hide (fun h1 h2 => idom_done hok.out hG2.out (fun h => by
                      have h3 := hF.out h1 h
                      have h4 := hOn0.out h
                      rwa [show max 1 O.length = O.length by omega] at h3) h2)
                    have hg2 : Hid (tb2 = true → gk - 1 + (k + 1) = K + 2 ∧ k + 1 ≤ K + 1) := hide (fun h => by
                      have h1 := hg.out trivial
                      have h2 := hk.out h
                      omega)
                    have hgk : Hid (gk - 1 < gk) := hide (by have h1 := hg.out trivial; omega)
                    clear hG hF hg
                    go_wp2
                    go_roundg (gk - 1)
                    case rel => exact ⟨tb2, k + 1, l2, rfl, hG2, hU, hO1, hg2, hend2⟩
                    case measure => exact hgk.out
end Go.Proofs.Yteeclobpajalmaa
