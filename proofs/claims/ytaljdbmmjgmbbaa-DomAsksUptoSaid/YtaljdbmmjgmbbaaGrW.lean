/- latheref06.Without and latheref06.Reach. No condition but sizes. -/
import Derived.Test.YtaljdbmmjgmbbaaGrT
import Derived.Test.YtaljdbmmjgmbbaaGrV
namespace Go.Proofs.Ytaljdbmmjgmbbaa
open Go.RowKit
set_option linter.unusedSimpArgs false
set_option linter.unusedVariables false

/-- the rows of successors, as far as they are laid -/
def NextAt (sc : Int → List Int) (n : Nat) (w : World) (B g b : Nat) : Prop := ∃ cs : List Value, w.ownsRow B 22 1 (.slice (some ⟨g, 0, none⟩) n n) n cs ∧ ∀ k : Nat, k < b → ∃ c, cs[k]? = some c ∧ OwnI w 0 c (sc k)
theorem NextAt.start {sc : Int → List Int} {n : Nat} {w : World} {B g : Nat} (h : w.ownsRow B 22 1 (.slice (some ⟨g, 0, none⟩) n n) n (List.replicate n (Value.slice none 0 0))) : NextAt sc n w B g 0 := ⟨_, h, fun k hk => by omega⟩
theorem NextAt.below {sc : Int → List Int} {n : Nat} {w w' : World} {B g b : Nat} (h : NextAt sc n w B g b) (hb : Below w.heap.size w w') : NextAt sc n w' B g b := by
  obtain ⟨cs, h1, h2⟩ := h
  exact ⟨cs, row_kept h1 fun k hk => hb.block k (row_lt h1 hk).2.1, fun k hk => by
    obtain ⟨c, h3, h4⟩ := h2 k hk
    exact ⟨c, h3, h4.kept fun k _ hk => hb.block k hk⟩⟩
theorem NextAt.put {sc : Int → List Int} {n : Nat} {w : World} {B g b : Nat} {c : Value} (h : NextAt sc n w B g b) (hb : b < n) (hc : OwnI w 0 c (sc b)) : NextAt sc n (w.setCell ⟨g, b, none⟩ c) B g (b + 1) := by
  obtain ⟨cs, h1, h2⟩ := h
  have h3 := (World.ownsRow.stored h1 b c).1
  have hbut := But.stored (j := b) (u := c) h1
  have hl : cs.length = n := by have := h1.1; omega
  refine ⟨_, h3, fun k hk => ?_⟩
  by_cases e : b = k
  · subst e
    exact ⟨c, List.getElem?_set_self (by omega), ⟨hbut.row (by decide) hc.row, hc.ok⟩⟩
  · obtain ⟨c', h4, h5⟩ := h2 k (by omega)
    exact ⟨c', by rw [List.getElem?_set_ne e]; exact h4, ⟨hbut.row (by decide) h5.row, h5.ok⟩⟩
theorem NextAt.reads {sc : Int → List Int} {n : Nat} {w : World} {B g gl : Nat} (h : NextAt sc n w B g n) (hgl : ∀ c T, w.heap[gl]? = some (.cells c T (0, 0)) → T = 4) : ∀ b : Nat, b < n → ∃ A C, (∀ w', Only (fun k => k = gl) w.heap.size w w' → w'.cell? ⟨g, b, none⟩ = some (.slice A (sc b).length C)) ∧
    (0 < (sc b).length → ∃ g, A = some ⟨g, 0, none⟩ ∧ ∀ (i : Nat) x, (sc b)[i]? = some x → ∀ w', Only (fun k => k = gl) w.heap.size w w' → w'.cell? ⟨g, i, none⟩ = some (.int .i64 x)) := by
  obtain ⟨cs, h1, h2⟩ := h
  intro b hb
  obtain ⟨c, h3, h4⟩ := h2 b hb
  obtain ⟨A, C, rfl⟩ := row_form h4.row
  refine ⟨A, C, fun w' ho => ?_, fun hl => ?_⟩
  · obtain ⟨-, h5, c5, h6⟩ := row_lt h1 (k := g) rfl
    rw [ho.cell (p := ⟨g, b, none⟩) h5 (fun e => by have e' : g = gl := e; rw [e'] at h6; exact absurd (hgl _ _ h6) (by decide)), World.ownsRow.cellAt h1 b (by omega)]
    exact h3
  · obtain ⟨g2, cap, hv, -, -⟩ := h4.row.form hl
    cases hv
    obtain ⟨-, h5, c5, h6⟩ := row_lt h4.row (k := g2) rfl
    refine ⟨g2, rfl, fun i x hi w' ho => ?_⟩
    rw [ho.cell (p := ⟨g2, i, none⟩) h5 (fun e => by have e' : g2 = gl := e; rw [e'] at h6; exact absurd (hgl _ _ h6) (by decide)), World.ownsRow.cellAt h4.row i (by have := (List.getElem?_eq_some_iff.1 hi).1; omega), List.getElem?_map, hi]
    rfl
def b01 (b : Bool) : Nat := match b with | true => 1 | false => 0
def WithoutPost (sc : Int → List Int) (gone : Int) (n : Nat) (w : World) (e : Ending) (w' : World) : Prop := ∃ g l, e = .returned (.slice (some ⟨g, 0, none⟩) n n) ∧ w'.ownsRow w.heap.size 4 1 (.slice (some ⟨g, 0, none⟩) n n) n (l.map Value.bool) ∧ WOk sc gone n l ∧ Below w.heap.size w w'
set_option maxRecDepth 100000 in
set_option maxHeartbeats 6400000 in
theorem without_any (f : Fun) (gone : Int) (c1 c2 : Value) (w : World) (B : Nat) (hB : B ≤ w.heap.size) (hf : RFun.rep w B [.string f.name, c1, .int .i64 f.ret, c2] f) (hs : Small f) :
    Calls Try.prog 98 #[f.v c1 c2, .int .i64 gone] w (WithoutPost (succsF f.blocks) gone f.blocks.length w) := by
  obtain ⟨hp, hb⟩ := fun_open (RFun.later hf (Below.refl _ _) hB)
  obtain ⟨A1, k1, h1, -, -⟩ := Rp.slice1_open hp
  obtain ⟨A2, k2, h2, hm2, -⟩ := Rp.slice1_open hb
  cases h1; cases h2
  clear hp hb
  obtain ⟨b0, hb0, hx0, hx1, hx2⟩ := cinfo_parts cinfo_bool
  replace hb0 := hide hb0
  replace hx0 := hide hx0
  replace hx1 := hide hx1
  replace hx2 := hide hx2
  obtain ⟨j0, hj0, hy0, hy1, hy2⟩ := cinfo_parts cinfo_ints
  replace hj0 := hide hj0
  replace hy0 := hide hy0
  replace hy1 := hide hy1
  replace hy2 := hide hy2
  obtain ⟨n, hn⟩ : ∃ n, Hid (n = f.blocks.length) := ⟨_, hide rfl⟩
  have hnle : n ≤ 2000000 := by rw [hn.out]; exact hs.blocks
  obtain ⟨sc, hsc⟩ : ∃ sc, Hid (sc = succsF f.blocks) := ⟨_, hide rfl⟩
  have hsok : Hid (∀ b, SuccOk n (sc b)) := hide (fun b => by rw [hsc.out, hn.out]; exact succsF_ok _ _)
  rw [← hn.out, ← hsc.out]
  rw [← hn.out] at hf hm2
  obtain ⟨W, hW, hwW, hWs, hx⟩ := boxes1 w #[.string f.name, .slice A1 f.params.length k1, .int .i64 f.ret, .slice A2 n k2] 25
  have q0 : ∀ w', Below W.heap.size W w' → w'.cell? ⟨w.heap.size, 0, none⟩ = some (.string f.name) := hx 0 _ rfl
  have q1 : ∀ w', Below W.heap.size W w' → w'.cell? ⟨w.heap.size, 1, none⟩ = some (.slice A1 f.params.length k1) := hx 1 _ rfl
  have q2 : ∀ w', Below W.heap.size W w' → w'.cell? ⟨w.heap.size, 2, none⟩ = some (.int .i64 f.ret) := hx 2 _ rfl
  have q3 : ∀ w', Below W.heap.size W w' → w'.cell? ⟨w.heap.size, 3, none⟩ = some (.slice A2 n k2) := hx 3 _ rfl
  clear hx
  have hws : w.heap.size ≤ W.heap.size := by omega
  replace hWs := hide hWs
  have hself := Below.refl W.heap.size W
  have cS : Hid (∀ (b : Int) w', Below W.heap.size W w' → Calls Try.prog 114 #[f.v (.slice A1 f.params.length k1) (.slice A2 n k2), .int .i64 b] w' (SuccPost (sc b) w')) := hide (fun b w' h => by
    have hh := hwW.trans (h.mono hws)
    have := rsuccs_any f b (.slice A1 f.params.length k1) (.slice A2 n k2) w' w'.heap.size (Nat.le_refl _) (RFun.later hf (hh.mono hB) (Nat.le_trans hB hh.size)) hs
    rwa [← hsc.out] at this)
  replace hs := hide hs
  replace hf := hide hf
  replace hwW := hide hwW
  go_enter Try.func98, Try.ntmps98
  go_wp2_with (at_make; refine wpList_make_full _ rfl (.tmp 16) (.tmp 16) _ rfl W.heap.size 4 b0 _ 1 Try.underlying63 hb0.out hx0.out hx1.out .i64 .i64 n n n rfl rfl rfl rfl ?c1 ?c2 (Nat.le_refl _) ?_)
  case c1 => rw [hx2.out]; omega
  case c2 => unfold maxLen; omega
  intro w1 hown1 hg1
  have hbel1 := below_grown0 hg1
  have hmk1 := made_bools hown1
  clear hg1 hown1
  have e00 : ((0 : Nat) : Int) = 0 := rfl
  by_cases hz : n = 0 ∨ gone = 0
  · have hcase : ((n : Int) == 0) = true ∨ (((n : Int) == 0) = false ∧ (gone == 0) = true) := by
      by_cases h0 : n = 0
      · exact .inl (by rw [beq_iff_eq]; omega)
      · exact .inr ⟨by rw [beq_eq_false_iff_ne]; omega, by rw [beq_iff_eq]; omega⟩
    have hok := hide (wok_none (sc := sc) hz)
    clear hz
    replace hmk1 := hide hmk1
    rcases hcase with h0 | ⟨h0, h1⟩
    all_goals
      go_wp2
      go_ret
      exact ⟨W.heap.size, _, rfl, row_mono hmk1.out hws, hok.out, hwW.out.trans (hbel1.mono hws)⟩
  have hg0 : Hid (gone ≠ 0) := hide (fun e => hz (.inr e))
  have hn0 : 0 < n := Nat.pos_of_ne_zero (fun e => hz (.inl e))
  clear hz
  have h0 : ((n : Int) == 0) = false := by rw [beq_eq_false_iff_ne]; omega
  have h1 : (gone == 0) = false := by rw [beq_eq_false_iff_ne]; exact hg0.out
  have fz1 : w1.frozen? ⟨W.heap.size, 0, none⟩ = false := World.ownsRow.frozenAt hmk1 0
  have rz1 : w1.cell? ⟨W.heap.size, 0, none⟩ = some (.bool false) := OwnB.cell hmk1 (by rw [List.getElem?_replicate, if_pos hn0]) hn0
  have hmk2 := (World.ownsRow.stored hmk1 0 (.bool true)).1
  rw [bmap_set] at hmk2
  have hbel2 : Below W.heap.size W (w1.setCell ⟨W.heap.size, 0, none⟩ (.bool true)) := hbel1.setCell (p := ⟨W.heap.size, 0, none⟩) (Nat.le_refl _) (.bool true)
  have hs2 := hbel2.size
  replace hmk1 := hide hmk1
  replace hmk2 := hide hmk2
  go_wp2_with (at_make; refine wpList_make_full _ rfl (.tmp 27) (.tmp 27) _ rfl W.heap.size 22 j0 _ 1 Try.underlying67 hj0.out hy0.out hy1.out .i64 .i64 n n n rfl rfl rfl rfl ?c1 ?c2 hs2 ?_)
  case c1 => rw [hy2.out]; omega
  case c2 => unfold maxLen; omega
  intro w3 hown3 hg3
  have hbel3 := hbel2.trans ((below_grown0 hg3).mono hs2)
  have hmk3 := hide (row_kept hmk2.out fun k hk => hg3.block k (row_lt hmk2.out hk).2.1 (fun e => by cases e))
  have hnx3 := hide (NextAt.start (sc := sc) (made_rows hown3))
  have hs3 := hbel3.size
  clear hg3 hown3 hbel1 hbel2 hmk1 hmk2 hs2 fz1 rz1
  go_wp2
  obtain ⟨gN, hgN⟩ : ∃ gN, gN = w1.heap.size := ⟨_, rfl⟩
  rw [← hgN] at hnx3 ⊢
  clear hgN
  go_loopw [8] (fun i wr => ∃ b : Nat, i = .int .i64 b ∧ b ≤ n ∧ Hid (NextAt sc n wr W.heap.size gN b) ∧ Hid (wr.ownsRow W.heap.size 4 1 (.slice (some ⟨W.heap.size, 0, none⟩) n n) n (((List.replicate n false).set 0 true).map Value.bool)) ∧ Below W.heap.size W wr) (fun i _ => n - (intOf i).toNat)
  case atStart => exact ⟨0, rfl, Nat.zero_le _, hnx3, hmk3, hbel3⟩
  case round =>
    clear hnx3 hmk3 hbel3 hs3
    obtain ⟨b, rfl, hb, hnx, hmk, hbel⟩ := hrel
    by_cases hlt : b < n
    · have hbs := hbel.size
      have hbi : (b : Int) < (n : Int) := by omega
      go_wp2_with (first
        | (go_at_call 114
           refine (cS.out b _ hbel).mono ?_
           rintro e w5 ⟨c5, rfl, hO5, hb5⟩
           have hnx5 := hide (hnx.out.below hb5)
           have hbel5 := hbel.trans (hb5.mono hbs)
           have hmk5 := hide (row_kept hmk.out fun k hk => hb5.block k (row_lt hmk.out hk).2.1)
           obtain ⟨cs5, hr5, hc5⟩ := id hnx5.out
           have hcl : cs5.length = n := by have := hr5.1; omega
           obtain ⟨u5, hu5⟩ := get_ex (l := cs5) (k := b) (by omega)
           have rz5 : w5.cell? ⟨gN, b, none⟩ = some u5 := by rw [World.ownsRow.cellAt hr5 b (by omega)]; exact hu5.out
           have fz5 : w5.frozen? ⟨gN, b, none⟩ = false := World.ownsRow.frozenAt hr5 b
           have hgb := hide (row_lt hr5 (k := gN) rfl).1
           have hnx6 := hide (NextAt.put hnx5.out hlt (hO5.mono (Nat.zero_le _)))
           have hmk6 := hide ((But.stored (j := b) (u := c5) hr5).row (by decide) hmk5.out)
           have hbel6 := hide (hbel5.setCell (p := ⟨gN, b, none⟩) hgb.out c5)
           obtain ⟨Ac, kc, hcf⟩ := row_form hO5.row
           subst hcf
           clear hO5 hb5 hnx5 hmk5 hr5 hc5))
      go_roundw
      case rel => exact ⟨b + 1, by go_num, hlt, hnx6, hmk6, hbel6.out⟩
      case measure => simp [intOf]; omega
    · obtain rfl : b = n := by omega
      rename World => Y
      have hgl : ∀ c T, Y.heap[W.heap.size]? = some (.cells c T (0, 0)) → T = 4 := fun c T h => by
        obtain ⟨-, -, c', h'⟩ := row_lt hmk.out (k := W.heap.size) rfl
        rw [h] at h'
        injection h' with h'
        injection h' with _ h3
      have hrd := hide (hnx.out.reads hgl)
      have hfr : Hid (Y.ownsRow W.heap.size 4 1 (.slice (some ⟨W.heap.size, 0, none⟩) b b) b (((List.replicate b false).set 0 true).map Value.bool)) := hmk
      have hselfY := Only.refl (fun k => k = W.heap.size) Y.heap.size Y
      have hstart := hide (wout_start (sc := sc) hn0 hg0.out)
      clear hgl hnx
      go_wp2
      go_loopg [9] (2 * ((List.replicate b false).set 0 true).count false + 1) (fun k u9 wr => ∃ l more, 2 * l.count false + b01 more = k ∧ u9 = .bool more ∧ Hid (WOut sc gone b l more) ∧ Hid (wr.ownsRow W.heap.size 4 1 (.slice (some ⟨W.heap.size, 0, none⟩) b b) b (l.map Value.bool)) ∧ Only (fun k => k = W.heap.size) Y.heap.size Y wr)
      case atStart => exact ⟨_, true, rfl, rfl, hstart, hmk, hselfY⟩
      case round =>
        clear hstart hfr hselfY hmk
        obtain ⟨l0, more0, hmu, rfl, hwo, hmk, hon⟩ := hrel
        replace hmu := hide hmu
        cases more0 with
        | false =>
          have hok : Hid (WOk sc gone b l0) := hide ⟨hwo.out.len, wout_end hsok.out hwo.out⟩
          have hbY := hide (hbel.trans (hon.to_below (fun k hk => by have e : k = W.heap.size := hk; omega) hbel.size))
          go_wp2
          go_ret
          exact ⟨W.heap.size, l0, rfl, row_mono hmk.out hws, hok.out, hwW.out.trans (hbY.out.mono hws)⟩
        | true =>
          have hst := hide (winv_start hwo.out)
          go_wp2
          go_loopw [9, 10] (fun m i wr => ∃ (d : Nat) (l : List Bool) (more : Bool), i = .int .i64 d ∧ m = .bool more ∧ d ≤ b ∧ Hid (WInv sc gone b l0 l more d) ∧ Hid (wr.ownsRow W.heap.size 4 1 (.slice (some ⟨W.heap.size, 0, none⟩) b b) b (l.map Value.bool)) ∧ Only (fun k => k = W.heap.size) Y.heap.size Y wr) (fun _ i _ => b - (intOf i).toNat)
          case atStart => exact ⟨0, l0, false, rfl, rfl, Nat.zero_le _, hst, hmk, hon⟩
          case round =>
            clear hst hmk hon
            obtain ⟨d, l1, more1, rfl, rfl, hd, hwi, hmk, hon⟩ := hrel
            by_cases hltd : d < b
            · have hdi : (d : Int) < (b : Int) := by omega
              obtain ⟨Ad, kd, rd, hdr⟩ := hrd.out d hltd
              replace hdr := hide hdr
              have hsl : (sc d).length ≤ b := succ_len (hsok.out d)
              have hst2 := hide (winv_in hwi.out)
              go_wp2
              go_loopw [9, 11] (fun m i wr => ∃ (j : Nat) (l : List Bool) (more : Bool), i = .int .i64 j ∧ m = .bool more ∧ j ≤ (sc d).length ∧ Hid (WInvI sc gone b l0 l more d j) ∧ Hid (wr.ownsRow W.heap.size 4 1 (.slice (some ⟨W.heap.size, 0, none⟩) b b) b (l.map Value.bool)) ∧ Only (fun k => k = W.heap.size) Y.heap.size Y wr) (fun _ i _ => (sc d).length - (intOf i).toNat)
              case atStart => exact ⟨0, l1, more1, rfl, rfl, Nat.zero_le _, hst2, hmk, hon⟩
              case round =>
                clear hst2 hwi hmk hon
                obtain ⟨j, l2, more2, rfl, rfl, hj, hwi, hmk, hon⟩ := hrel
                have hl2 := hwi.out.inv.len
                obtain ⟨bd, hbd⟩ := get_ex (l := l2) (k := d) (by omega)
                have s0 : wr.cell? ⟨W.heap.size, d, none⟩ = some (.bool bd) := OwnB.cell hmk.out hbd.out hltd
                cases bd with
                | false =>
                  have hnext := hide (winv_dead hwi.out.inv hbd.out)
                  go_wp2
                  go_roundw
                  case rel => exact ⟨d + 1, l2, more2, by go_num, rfl, hltd, hnext, hmk, hon⟩
                  case measure => simp [intOf]; omega
                | true =>
                  by_cases hltj : j < (sc d).length
                  · have hji : (j : Int) < ((sc d).length : Int) := by omega
                    obtain ⟨t, ht⟩ := get_ex (l := sc d) (k := j) hltj
                    have htb := (hsok.out d).bound t (List.mem_of_getElem? ht.out)
                    obtain ⟨tn, rfl⟩ := Int.eq_ofNat_of_zero_le htb.1
                    have htn : tn < b := by have := htb.2; omega
                    clear htb
                    obtain ⟨g5, hg5, hgr⟩ := hdr.out (by omega)
                    cases hg5
                    have r0 := hgr j _ ht.out
                    clear hgr
                    obtain ⟨bt, hbt⟩ := get_ex (l := l2) (k := tn) (by omega)
                    have s1 : wr.cell? ⟨W.heap.size, tn, none⟩ = some (.bool bt) := OwnB.cell hmk.out hbt.out htn
                    by_cases hgt : ((tn : Nat) : Int) = gone
                    · have hgf : (((tn : Nat) : Int) != gone) = false := by rw [hgt]; simp
                      have hnext := hide (wI_skip hwi.out ht.out (.inl hgt))
                      replace hgt := hide hgt
                      go_wp2
                      go_roundw
                      case rel => exact ⟨j + 1, l2, more2, by go_num, rfl, hltj, hnext, hmk, hon⟩
                      case measure => simp [intOf]; omega
                    · have hgf : (((tn : Nat) : Int) != gone) = true := by rw [bne_iff_ne]; exact hgt
                      cases bt with
                      | true =>
                        have hnext := hide (wI_skip hwi.out ht.out (.inr hbt.out))
                        replace hgt := hide hgt
                        go_wp2
                        go_roundw
                        case rel => exact ⟨j + 1, l2, more2, by go_num, rfl, hltj, hnext, hmk, hon⟩
                        case measure => simp [intOf]; omega
                      | false =>
                        have hnext := hide (wI_mark hwi.out hbd.out ht.out hgt hbt.out)
                        have f1 : wr.frozen? ⟨W.heap.size, tn, none⟩ = false := World.ownsRow.frozenAt hmk.out tn
                        have st := (World.ownsRow.stored hmk.out tn (.bool true)).1
                        rw [bmap_set] at st
                        replace st := hide st
                        have hon9 := hide (hon.setCell (S := fun k => k = W.heap.size) (p := ⟨W.heap.size, tn, none⟩) (.inl rfl) (.bool true))
                        replace hgt := hide hgt
                        go_wp2
                        go_roundw
                        case rel => exact ⟨j + 1, _, true, by go_num, rfl, hltj, hnext, st, hon9.out⟩
                        case measure => simp [intOf]; omega
                  · obtain rfl : j = (sc d).length := by omega
                    have hnext := hide (wI_end hwi.out)
                    go_wp2
                    go_roundw
                    case rel => exact ⟨d + 1, l2, more2, by go_num, rfl, hltd, hnext, hmk, hon⟩
                    case measure => simp [intOf]; omega
            · obtain rfl : d = b := by omega
              have hwo2 := hide (winv_out hwi.out)
              have hlt9 : Hid (2 * l1.count false + b01 more1 < gk) := hide (by
                rw [← hmu.out]
                cases more1 with
                | true => have := hwi.out.less rfl; simp only [b01]; omega
                | false => rw [hwi.out.same rfl]; simp only [b01]; omega)
              go_wp2
              go_roundg (2 * l1.count false + b01 more1)
              case measure => exact hlt9.out
              case rel => exact ⟨l1, more1, rfl, rfl, hwo2, hmk, hon⟩
set_option maxHeartbeats 1600000 in
theorem rreach_any (f : Fun) (c1 c2 : Value) (w : World) (B : Nat) (hB : B ≤ w.heap.size) (hf : RFun.rep w B [.string f.name, c1, .int .i64 f.ret, c2] f) (hs : Small f) :
    Calls Try.prog 97 #[f.v c1 c2] w (ReachPost f.blocks.length (reachF f.blocks) w) := by
  obtain ⟨hp, hb⟩ := fun_open (RFun.later hf (Below.refl _ _) hB)
  obtain ⟨A1, k1, h1, -, -⟩ := Rp.slice1_open hp
  obtain ⟨A2, k2, h2, hm2, -⟩ := Rp.slice1_open hb
  cases h1; cases h2
  clear hp hb
  obtain ⟨n, hn⟩ : ∃ n, Hid (n = f.blocks.length) := ⟨_, hide rfl⟩
  rw [← hn.out] at hf hm2 ⊢
  obtain ⟨W, hW, hwW, hWs, hx⟩ := boxes1 w #[.string f.name, .slice A1 f.params.length k1, .int .i64 f.ret, .slice A2 n k2] 25
  have q0 : ∀ w', Below W.heap.size W w' → w'.cell? ⟨w.heap.size, 0, none⟩ = some (.string f.name) := hx 0 _ rfl
  have q1 : ∀ w', Below W.heap.size W w' → w'.cell? ⟨w.heap.size, 1, none⟩ = some (.slice A1 f.params.length k1) := hx 1 _ rfl
  have q2 : ∀ w', Below W.heap.size W w' → w'.cell? ⟨w.heap.size, 2, none⟩ = some (.int .i64 f.ret) := hx 2 _ rfl
  have q3 : ∀ w', Below W.heap.size W w' → w'.cell? ⟨w.heap.size, 3, none⟩ = some (.slice A2 n k2) := hx 3 _ rfl
  clear hx
  have hws : w.heap.size ≤ W.heap.size := by omega
  replace hWs := hide hWs
  have hself := Below.refl W.heap.size W
  have cW : Hid (Calls Try.prog 98 #[f.v (.slice A1 f.params.length k1) (.slice A2 n k2), .int .i64 (-1)] W (WithoutPost (succsF f.blocks) (-1) n W)) := hide (by
    have := without_any f (-1) (.slice A1 f.params.length k1) (.slice A2 n k2) W W.heap.size (Nat.le_refl _) (RFun.later hf (hwW.mono hB) (Nat.le_trans hB hws)) hs
    rwa [← hn.out] at this)
  replace hs := hide hs
  replace hf := hide hf
  replace hwW := hide hwW
  go_enter Try.func97, Try.ntmps97
  go_wp2_with (first | (go_at_call 98; refine cW.out.mono ?_; rintro e w9 ⟨g, l, rfl, hr, hl, hb9⟩))
  go_ret
  refine ⟨g, rfl, ?_, hwW.out.trans (hb9.mono hws)⟩
  have h9 := wok_reach f.blocks
  rw [← hn.out] at h9
  rw [← wok_unique hl h9]
  exact row_mono hr hws
end Go.Proofs.Ytaljdbmmjgmbbaa
