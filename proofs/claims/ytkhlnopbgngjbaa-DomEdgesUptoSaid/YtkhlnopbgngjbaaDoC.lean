/- dom.meet: two fingers up the tree. No condition but what its lists hold. -/
import Derived.Test.YtkhlnopbgngjbaaDoB
import Derived.Test.YtkhlnopbgngjbaaGrO
namespace Go.Proofs.Ytkhlnopbgngjbaa
open Go.RowKit
set_option linter.unusedSimpArgs false
set_option linter.unusedVariables false

theorem bdn {B : Nat} {w w' : World} (h : Below B w w') (n : Nat) : Below B w (w'.drewN n) := ⟨h.os, h.tape, h.output, h.size, h.block⟩
/-- the list of ranks -/
def RankOk (o : List Int) (n : Nat) (R : List Int) : Prop := R.length = n ∧ ∀ (i : Nat) b, o[i]? = some b → R[b.toNat]? = some (i : Int)
theorem RankOk.at_ {o R : List Int} {n : Nat} {b : Int} (h : RankOk o n R) (hb : b ∈ o) : R[b.toNat]? = some ((o.idxOf b : Nat) : Int) := h.2 _ _ (at_idx hb)
def MeetPost (U : Int → Int) (a b : Int) (w : World) (e : Ending) (w' : World) : Prop := ∃ m : Int, e = .returned (.int .i64 m) ∧ Nca U a b m ∧ 0 ≤ m ∧ 0 ≤ U m ∧ Below w.heap.size w w'

set_option maxRecDepth 100000 in
set_option maxHeartbeats 3200000 in
theorem meet_any (sc : Int → List Int) (o l R : List Int) (n g g' : Nat) (a b : Int) (w : World) (hn : l.length = n) (hn9 : n ≤ 2000000) (T : Tree sc o (fun b => o.idxOf b) (upF l)) (P : Ord sc o (fun b => o.idxOf b)) (hR : RankOk o n R)
    (ha : 0 ≤ upF l a) (hb : 0 ≤ upF l b) (hu : ∀ (k : Nat) x, l[k]? = some x → ∀ w', Below w.heap.size w w' → w'.cell? ⟨g, k, none⟩ = some (.int .i64 x)) (hr : ∀ (k : Nat) x, R[k]? = some x → ∀ w', Below w.heap.size w w' → w'.cell? ⟨g', k, none⟩ = some (.int .i64 x)) :
    Calls Try.prog 63 #[.slice (some ⟨g, 0, none⟩) n n, .slice (some ⟨g', 0, none⟩) n n, .int .i64 a, .int .i64 b] w (MeetPost (upF l) a b w) := by
  have hself := Below.refl w.heap.size w
  have hRl := hR.1
  replace hR := hide hR
  replace T := hide T
  replace P := hide P
  have huh := hide hu
  have hrh := hide hr
  replace ha := hide ha
  replace hb := hide hb
  clear hu hr
  go_enter Try.func63, Try.ntmps63
  go_wp2
  go_loopw [2, 3] (fun s2 s3 wr => ∃ x y : Int, s2 = .int .i64 x ∧ s3 = .int .i64 y ∧ Hid (0 ≤ upF l x ∧ 0 ≤ upF l y) ∧ Hid (Anc (upF l) x a ∧ Anc (upF l) y b) ∧ Hid (∀ c, Anc (upF l) c a → Anc (upF l) c b → Anc (upF l) c x ∧ Anc (upF l) c y) ∧ Below w.heap.size w wr)
    (fun s2 s3 _ => o.idxOf (intOf s2) + o.idxOf (intOf s3))
  case atStart => exact ⟨a, b, rfl, rfl, hide ⟨ha.out, hb.out⟩, hide ⟨.refl, .refl⟩, hide (fun c h1 h2 => ⟨h1, h2⟩), hself⟩
  case round =>
    obtain ⟨x, y, rfl, rfl, hal, hto, hc, hbel⟩ := hrel
    by_cases hxy : x = y
    · subst hxy
      have hx0 := (upF_get hal.out.1).1
      go_wp2
      go_ret
      exact ⟨x, rfl, ⟨hto.out.1, hto.out.2, fun c h1 h2 => (hc.out c h1 h2).1⟩, hx0, hal.out.1, hbel⟩
    · have hne : (x != y) = true := by simp [hxy]
      have hne2 : Hid (o.idxOf x ≠ o.idxOf y) := hide (fun e => hxy (P.out.inj x y (T.out.mem hal.out.1) (T.out.mem hal.out.2) e))
      obtain ⟨yn, hyn⟩ := Int.eq_ofNat_of_zero_le (upF_get hal.out.2).1
      subst hyn
      obtain ⟨ry, hry⟩ : ∃ ry, Hid (ry = o.idxOf (yn : Int)) := ⟨_, hide rfl⟩
      have r9 := hR.out.at_ (T.out.mem hal.out.2)
      rw [← hry.out, Int.toNat_natCast] at r9
      have hyl := (List.getElem?_eq_some_iff.1 r9).1
      have y1 := hrh.out _ _ r9
      go_wp2
      rename World => wo
      go_loopw [2] (fun s2 wr => ∃ x' : Int, s2 = .int .i64 x' ∧ Hid (0 ≤ upF l x') ∧ Hid (Anc (upF l) x' a) ∧ Hid (∀ c, Anc (upF l) c a → Anc (upF l) c b → Anc (upF l) c x') ∧ Hid (o.idxOf x' ≤ o.idxOf x) ∧ Below w.heap.size w wr)
        (fun s2 _ => o.idxOf (intOf s2))
      case atStart => exact ⟨x, rfl, hide hal.out.1, hide hto.out.1, hide (fun c h1 h2 => (hc.out c h1 h2).1), hide (Nat.le_refl _), hbel⟩
      case round =>
        clear hbel
        obtain ⟨x', rfl, hal', hto', hc', hle', hbel⟩ := hrel
        obtain ⟨xn, hxn⟩ := Int.eq_ofNat_of_zero_le (upF_get hal'.out).1
        subst hxn
        obtain ⟨rx, hrx⟩ : ∃ rx, Hid (rx = o.idxOf (xn : Int)) := ⟨_, hide rfl⟩
        have r8 := hR.out.at_ (T.out.mem hal'.out)
        rw [← hrx.out, Int.toNat_natCast] at r8
        have hxl := (List.getElem?_eq_some_iff.1 r8).1
        have x1 := hrh.out _ _ r8
        by_cases hgt : ry < rx
        · obtain ⟨u1, u2, u3, u4⟩ := T.out.climb hal'.out hal.out.2 (by show o.idxOf (yn : Int) < o.idxOf (xn : Int); rw [← hry.out, ← hrx.out]; exact hgt)
          have u5 := (upF_get hal'.out).2
          rw [Int.toNat_natCast] at u5
          obtain ⟨ux, hux⟩ : ∃ ux, Hid (ux = upF l xn) := ⟨_, hide rfl⟩
          rw [← hux.out] at u2 u3 u4 u5
          have x2 := huh.out _ _ u5
          have u6 : Hid (Anc (upF l) ux a) := hide ((show Anc (upF l) ux (xn : Int) from .up u1 (by rw [← hux.out]; exact .refl)).trans hto'.out)
          have u7 : Hid (∀ c, Anc (upF l) c a → Anc (upF l) c b → Anc (upF l) c ux) := hide (fun c h1 h2 => u4 c (hc'.out c h1 h2) ((hc.out c h1 h2).2))
          have u8 : Hid (o.idxOf ux < o.idxOf (xn : Int)) := hide u3
          have u9 : Hid (o.idxOf ux ≤ o.idxOf x) := hide (by have := u8.out; have := hle'.out; omega)
          replace u2 := hide u2
          clear u1 u3 u4 u5
          have hgt' : ((rx : Nat) : Int) > ((ry : Nat) : Int) := by omega
          go_upto_region 2 with (fail)
          go_quiet (fail)
          go_wp2
          go_roundw
          case rel => exact ⟨ux, rfl, u2, u6, u7, u9, bdn hbel _⟩
          case measure => exact u8.out
        · have hgt' : ¬ ((rx : Nat) : Int) > ((ry : Nat) : Int) := by omega
          go_upto_region 2 with (fail)
          go_quiet (fail)
          go_wp2
          have hbel2 := bdn hbel nq
          have hle2 : Hid (o.idxOf (xn : Int) ≤ ry) := hide (by rw [← hrx.out]; omega)
          clear hbel hgt hgt' x1 r8 hxl
          rename World => wi
          generalize wi.drewN nq = wz at hbel2 ⊢
          go_loopw [3] (fun s3 wr => ∃ y' : Int, s3 = .int .i64 y' ∧ Hid (0 ≤ upF l y') ∧ Hid (Anc (upF l) y' b) ∧ Hid (∀ c, Anc (upF l) c a → Anc (upF l) c b → Anc (upF l) c y') ∧ Hid (o.idxOf y' ≤ ry) ∧ Below w.heap.size w wr)
            (fun s3 _ => o.idxOf (intOf s3))
          case atStart => exact ⟨yn, rfl, hide hal.out.2, hide hto.out.2, hide (fun c h1 h2 => (hc.out c h1 h2).2), hide (by rw [hry.out]; exact Nat.le_refl _), hbel2⟩
          case round =>
            clear hbel2 y1 hyl r9
            obtain ⟨y', rfl, haly, htoy, hcy, hley, hbel⟩ := hrel
            obtain ⟨ym, hym⟩ := Int.eq_ofNat_of_zero_le (upF_get haly.out).1
            subst hym
            obtain ⟨rm, hrm⟩ : ∃ rm, Hid (rm = o.idxOf (ym : Int)) := ⟨_, hide rfl⟩
            have r7 := hR.out.at_ (T.out.mem haly.out)
            rw [← hrm.out, Int.toNat_natCast] at r7
            have hyl7 := (List.getElem?_eq_some_iff.1 r7).1
            have y3 := hrh.out _ _ r7
            have r8 := hR.out.at_ (T.out.mem hal'.out)
            rw [← hrx.out, Int.toNat_natCast] at r8
            have hxl := (List.getElem?_eq_some_iff.1 r8).1
            have x1 := hrh.out _ _ r8
            by_cases hgt : rx < rm
            · obtain ⟨u1, u2, u3, u4⟩ := T.out.climb haly.out hal'.out (by show o.idxOf (xn : Int) < o.idxOf (ym : Int); rw [← hrm.out, ← hrx.out]; exact hgt)
              have u5 := (upF_get haly.out).2
              rw [Int.toNat_natCast] at u5
              obtain ⟨ux, hux⟩ : ∃ ux, Hid (ux = upF l ym) := ⟨_, hide rfl⟩
              rw [← hux.out] at u2 u3 u4 u5
              have x2 := huh.out _ _ u5
              have hyl5 := (List.getElem?_eq_some_iff.1 u5).1
              have u6 : Hid (Anc (upF l) ux b) := hide ((show Anc (upF l) ux (ym : Int) from .up u1 (by rw [← hux.out]; exact .refl)).trans htoy.out)
              have u7 : Hid (∀ c, Anc (upF l) c a → Anc (upF l) c b → Anc (upF l) c ux) := hide (fun c h1 h2 => u4 c (hcy.out c h1 h2) (hc'.out c h1 h2))
              have u8 : Hid (o.idxOf ux < o.idxOf (ym : Int)) := hide u3
              have u9 : Hid (o.idxOf ux ≤ ry) := hide (by have := u8.out; have := hley.out; omega)
              replace u2 := hide u2
              clear u1 u3 u4 u5
              have hgt' : ((rm : Nat) : Int) > ((rx : Nat) : Int) := by omega
              go_upto_region 4 with (fail)
              go_quiet (fail)
              go_wp2
              go_roundw
              case rel => exact ⟨ux, rfl, u2, u6, u7, u9, bdn hbel _⟩
              case measure => exact u8.out
            · have hgt' : ¬ ((rm : Nat) : Int) > ((rx : Nat) : Int) := by omega
              go_upto_region 4 with (fail)
              go_quiet (fail)
              go_wp2
              have h8 : o.idxOf (ym : Int) ≤ rx := by rw [← hrm.out]; omega
              have h9 : o.idxOf (xn : Int) + o.idxOf (ym : Int) < o.idxOf x + o.idxOf (yn : Int) := by
                have g1 := hrx.out
                have g2 := hry.out
                have g3 := hle2.out
                have g4 := hle'.out
                have g5 := hley.out
                have g6 := hne2.out
                omega
              go_roundw
              case rel => exact ⟨xn, ym, rfl, rfl, hide ⟨hal'.out, haly.out⟩, hide ⟨hto'.out, htoy.out⟩, hide (fun c h1 h2 => ⟨hc'.out c h1 h2, hcy.out c h1 h2⟩), bdn hbel _⟩
              case measure => exact h9
end Go.Proofs.Ytkhlnopbgngjbaa
