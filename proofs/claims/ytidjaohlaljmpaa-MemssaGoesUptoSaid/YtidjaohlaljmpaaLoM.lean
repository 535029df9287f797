/- latheref13.Blocks. No condition but sizes. | latheref13.exits. No condition but sizes. | latheref13.Find. No condition but sizes. -/
import Derived.Test.YtidjaohlaljmpaaLoD
import Derived.Test.YtidjaohlaljmpaaLoK
import Derived.Test.YtidjaohlaljmpaaGrY
namespace Go.Proofs.Ytidjaohlaljmpaa
open Go.RowKit
set_option linter.unusedSimpArgs false
set_option linter.unusedVariables false

theorem int_only {X : World} {B : Nat} {S : Nat → Prop} {v : Value} {l : List Int} (h : OwnI X B v l) (hS : ∀ k, S k → k < B) : ∃ A C, v = .slice A l.length C ∧ (0 < l.length → ∃ g, A = some ⟨g, 0, none⟩ ∧ ∀ (i : Nat) x, l[i]? = some x → ∀ w', Only S X.heap.size X w' → w'.cell? ⟨g, i, none⟩ = some (.int .i64 x)) := by
  obtain ⟨A, C, rfl⟩ := row_form h.row
  refine ⟨A, C, rfl, fun hl => ?_⟩
  obtain ⟨g, cap, hv, -, -⟩ := h.row.form hl
  cases hv
  refine ⟨g, rfl, fun i x hi w' hb => ?_⟩
  rw [hb.cell (p := ⟨g, i, none⟩) (row_lt h.row rfl).2.1 (fun e => by have h3 : g < B := hS _ e; have := (row_lt h.row (k := g) rfl).1; omega), World.ownsRow.cellAt h.row i (by have := (List.getElem?_eq_some_iff.1 hi).1; omega), List.getElem?_map, hi]
  rfl
set_option maxRecDepth 100000 in
set_option maxHeartbeats 12800000 in
theorem rblocks_any (f : Fun) (h : Nat) (hha : h < f.blocks.length) (lat : List Int) (AL : Option Addr) (CL BL : Nat) (c1 c2 : Value) (w : World) (B : Nat) (hB : B ≤ w.heap.size) (hlat : OwnI w BL (.slice AL lat.length CL) lat) (hlo : ∀ x, x ∈ lat → x ∈ orderF f.blocks) (hll : lat.length ≤ 2000000)
    (hf : RFun.rep w B [.string f.name, c1, .int .i64 f.ret, c2] f) (hs : Small f) :
    Calls Try.prog 42 #[f.v c1 c2, .int .i64 h, .slice AL lat.length CL] w (SuccPost (lpL (succsF f.blocks) (orderF f.blocks) lat h f.blocks.length) w) := by
  obtain ⟨hp, hb⟩ := fun_open (RFun.later hf (Below.refl _ _) hB)
  obtain ⟨A1, k1, h1, -, -⟩ := Rp.slice1_open hp
  obtain ⟨A2, k2, h2, hm2, -⟩ := Rp.slice1_open hb
  cases h1; cases h2
  clear hp hb
  obtain ⟨n, hn⟩ : ∃ n, Hid (n = f.blocks.length) := ⟨_, hide rfl⟩
  have hnle : n ≤ 2000000 := by rw [hn.out]; exact hs.blocks
  obtain ⟨O, hO⟩ : ∃ O, Hid (O = orderF f.blocks) := ⟨_, hide rfl⟩
  obtain ⟨sc, hsc⟩ : ∃ sc, Hid (sc = succsF f.blocks) := ⟨_, hide rfl⟩
  obtain ⟨R, hR⟩ : ∃ R, Hid (R = reachF f.blocks) := ⟨_, hide rfl⟩
  obtain ⟨P, hP⟩ : ∃ P, Hid (P = predsL sc n) := ⟨_, hide rfl⟩
  have hPl : P.length = n := by rw [hP.out, predsL_len]
  have hRl : R.length = n := by rw [hR.out, hn.out, reach_len]
  have hsok : Hid (∀ b, SuccOk n (sc b)) := hide (fun b => by rw [hsc.out, hn.out]; exact succsF_ok _ _)
  have hok : Hid (OrderOk n sc O) := hide (by rw [hO.out, hn.out, hsc.out]; exact order_ok _)
  have hol : O.length ≤ n := by rw [hO.out, hn.out]; exact order_len _
  have hRat : Hid (∀ k : Nat, k < n → R[k]? = some (decide ((k : Int) ∈ O))) := hide (fun k hk => by rw [hR.out, hO.out]; exact reach_at _ _ (by rw [← hn.out]; exact hk))
  rw [← hn.out, ← hsc.out, ← hO.out]
  rw [← hn.out] at hf hm2 hha
  rw [← hO.out] at hlo
  obtain ⟨W, hW, hwW, hWs, hx⟩ := boxes1 w #[.string f.name, .slice A1 f.params.length k1, .int .i64 f.ret, .slice A2 n k2] 25
  have q0 : ∀ w', Below W.heap.size W w' → w'.cell? ⟨w.heap.size, 0, none⟩ = some (.string f.name) := hx 0 _ rfl
  have q1 : ∀ w', Below W.heap.size W w' → w'.cell? ⟨w.heap.size, 1, none⟩ = some (.slice A1 f.params.length k1) := hx 1 _ rfl
  have q2 : ∀ w', Below W.heap.size W w' → w'.cell? ⟨w.heap.size, 2, none⟩ = some (.int .i64 f.ret) := hx 2 _ rfl
  have q3 : ∀ w', Below W.heap.size W w' → w'.cell? ⟨w.heap.size, 3, none⟩ = some (.slice A2 n k2) := hx 3 _ rfl
  clear hx
  have hws : w.heap.size ≤ W.heap.size := by omega
  replace hWs := hide hWs
  have hself := Below.refl W.heap.size W
  have hF : Hid (∀ w', Below W.heap.size W w' → RFun.rep w' w'.heap.size [.string f.name, .slice A1 f.params.length k1, .int .i64 f.ret, .slice A2 n k2] f) := hide (fun w' h => RFun.later hf ((hwW.trans (h.mono hws)).mono hB) (Nat.le_trans hB (hwW.trans (h.mono hws)).size))
  have cRR : Hid (∀ w', Below W.heap.size W w' → Calls Try.prog 47 #[f.v (.slice A1 f.params.length k1) (.slice A2 n k2)] w' (ReachPost n R w')) := hide (fun w' h => by
    have := rreach_any f (.slice A1 f.params.length k1) (.slice A2 n k2) w' w'.heap.size (Nat.le_refl _) (hF.out w' h) hs
    rwa [← hn.out, ← hR.out] at this)
  have cSu : Hid (∀ (b : Int) w', Below W.heap.size W w' → Calls Try.prog 48 #[f.v (.slice A1 f.params.length k1) (.slice A2 n k2), .int .i64 b] w' (SuccPost (sc b) w')) := hide (fun b w' hb => by
    have := rsuccs_any f b (.slice A1 f.params.length k1) (.slice A2 n k2) w' w'.heap.size (Nat.le_refl _) (hF.out w' hb) hs
    rwa [← hsc.out] at this)
  replace hs := hide hs
  replace hf := hide hf
  replace hwW := hide hwW
  obtain ⟨i0, hi0, hz0, hz1, hz2⟩ := cinfo_parts cinfo_int
  obtain ⟨b0, hb0, hx0, hx1, hx2⟩ := cinfo_parts cinfo_bool
  replace hi0 := hide hi0
  replace hz0 := hide hz0
  replace hz1 := hide hz1
  replace hz2 := hide hz2
  replace hb0 := hide hb0
  replace hx0 := hide hx0
  replace hx1 := hide hx1
  replace hx2 := hide hx2
  have hlb : Hid (∀ x, x ∈ lat → 0 ≤ x ∧ x < n) := hide (fun x hx => hok.out.bound x (hlo x hx))
  replace hlo := hide hlo
  obtain ⟨AL', CL', heL, hLx⟩ := int_reads hlat
  simp only [Value.slice.injEq] at heL
  obtain ⟨heA, -, heC⟩ := heL
  subst heA heC
  replace hLx := hide hLx
  replace hlat := hide hlat
  obtain ⟨m, hm⟩ : ∃ m, Hid (m = lat.length) := ⟨_, hide rfl⟩
  rw [← hm.out] at hll ⊢
  replace hW := hide hW
  go_enter Try.func42, Try.ntmps42
  go_upto_region 1 with (fail)
  rw [hW.out]
  clear hW
  go_wp2_with (fail)
  refine (cRR.out _ hself).mono ?_
  rintro e X ⟨gr, rfl, hR4, hbX⟩
  have rre := hide (bool_reads hR4).2
  have hwXs : Hid (w.heap.size ≤ X.heap.size) := hide (Nat.le_trans hws hbX.size)
  have hwX : Hid (∀ w', Below X.heap.size X w' → Below w.heap.size w w') := hide (fun w' h => hwW.out.trans ((hbX.trans (h.mono hbX.size)).mono hws))
  have hWX : Hid (∀ w', Below X.heap.size X w' → Below W.heap.size W w') := hide (fun w' h => hbX.trans (h.mono hbX.size))
  have p0 : ∀ w', Below X.heap.size X w' → w'.cell? ⟨w.heap.size, 0, none⟩ = some (.string f.name) := fun w' h => q0 w' (hWX.out w' h)
  have p1 : ∀ w', Below X.heap.size X w' → w'.cell? ⟨w.heap.size, 1, none⟩ = some (.slice A1 f.params.length k1) := fun w' h => q1 w' (hWX.out w' h)
  have p2 : ∀ w', Below X.heap.size X w' → w'.cell? ⟨w.heap.size, 2, none⟩ = some (.int .i64 f.ret) := fun w' h => q2 w' (hWX.out w' h)
  have p3 : ∀ w', Below X.heap.size X w' → w'.cell? ⟨w.heap.size, 3, none⟩ = some (.slice A2 n k2) := fun w' h => q3 w' (hWX.out w' h)
  replace hR4 := hide hR4
  clear hbX cRR q0 q1 q2 q3 hself
  go_wp2_with (at_make; refine wpList_make_full _ rfl (.tmp 22) (.tmp 22) _ rfl X.heap.size 4 b0 _ 1 Try.underlying42 hb0.out hx0.out hx1.out .i64 .i64 n n n rfl rfl rfl rfl ?c1 ?c2 (Nat.le_refl _) ?_)
  case c1 => rw [hx2.out]; omega
  case c2 => unfold maxLen; omega
  intro w1 hown1 hg1
  have hbel1 := below_grown0 hg1
  have hmk1 := made_bools hown1
  clear hg1 hown1
  have hai : (h : Int) < (n : Int) := by omega
  have fz1 : w1.frozen? ⟨X.heap.size, h, none⟩ = false := World.ownsRow.frozenAt hmk1 h
  have rz1 : w1.cell? ⟨X.heap.size, h, none⟩ = some (.bool false) := OwnB.cell hmk1 (by rw [List.getElem?_replicate, if_pos hha]) hha
  have hmk2 := (World.ownsRow.stored hmk1 h (.bool true)).1
  rw [bmap_set] at hmk2
  have hbel2 : Below X.heap.size X (w1.setCell ⟨X.heap.size, h, none⟩ (.bool true)) := hbel1.setCell (p := ⟨X.heap.size, h, none⟩) (Nat.le_refl _) (.bool true)
  have hst1 := hide (bkL_start (lat := lat) hha)
  replace hmk1 := hide hmk1
  replace hmk2 := hide hmk2
  clear hbel1
  go_wp2
  go_loopw [10] (fun j wr => ∃ (i : Nat) (l : List Bool), j = .int .i64 i ∧ i ≤ m ∧ Hid (BkL lat h n l i) ∧ Hid (wr.ownsRow X.heap.size 4 1 (.slice (some ⟨X.heap.size, 0, none⟩) n n) n (l.map Value.bool)) ∧ Below X.heap.size X wr) (fun i _ => m - (intOf i).toNat)
  case atStart => exact ⟨0, _, rfl, Nat.zero_le _, hst1, hmk2, hbel2⟩
  case round =>
    clear hst1 hmk1 hmk2 hbel2 fz1 rz1
    rename World => V
    obtain ⟨i, l, rfl, hi, hst, hmk, hbel⟩ := hrel
    by_cases hlti : i < m
    · have hii : (i : Int) < (m : Int) := by omega
      obtain ⟨x, hx⟩ := get_ex (l := lat) (k := i) (by rw [← hm.out]; exact hlti)
      obtain ⟨g5, hg5, rx⟩ := hLx.out (by rw [← hm.out]; omega)
      subst hg5
      have rx0 := rx i _ hx.out V (hwX.out V hbel)
      clear rx
      obtain ⟨hx0', hx1'⟩ := hlb.out x (List.mem_of_getElem? hx.out)
      obtain ⟨t, rfl⟩ := Int.eq_ofNat_of_zero_le hx0'
      have htn : t < n := by omega
      obtain ⟨bt, hbt⟩ := get_ex (l := l) (k := t) (by rw [hst.out.len]; exact htn)
      have r1 : V.cell? ⟨X.heap.size, t, none⟩ = some (.bool bt) := OwnB.cell hmk.out hbt.out htn
      have f1 : V.frozen? ⟨X.heap.size, t, none⟩ = false := World.ownsRow.frozenAt hmk.out t
      have st := (World.ownsRow.stored hmk.out t (.bool true)).1
      rw [bmap_set] at st
      replace st := hide st
      have hnext := hide (bkL_next hst.out hx.out htn)
      have hbw := hide (hbel.setCell (p := ⟨X.heap.size, t, none⟩) (Nat.le_refl _) (.bool true))
      go_wp2
      go_roundw
      case rel => exact ⟨i + 1, _, by go_num, hlti, hnext, st, hbw.out⟩
      case measure => simp [intOf]; omega
    · obtain rfl : i = m := by omega
      have hO0 : Hid (BkO sc O lat h n l true) := hide (bkL_end (by rw [← hm.out]; exact hst.out) hha hlb.out)
      clear hst
      go_wp2
      go_loopg [11] (2 * l.count false + 1) (fun k u11 wr => ∃ l more, 2 * l.count false + b01 more = k ∧ u11 = .bool more ∧ Hid (BkO sc O lat h n l more) ∧ Hid (wr.ownsRow X.heap.size 4 1 (.slice (some ⟨X.heap.size, 0, none⟩) n n) n (l.map Value.bool)) ∧ Below X.heap.size X wr)
      case atStart => exact ⟨_, true, rfl, rfl, hO0, hmk, hbel⟩
      case round =>
        clear hO0 hmk hbel V
        rename World => V
        obtain ⟨l0, more0, hmu, rfl, hwo, hmk, hbel⟩ := hrel
        replace hmu := hide hmu
        cases more0 with
        | false =>
          have hin : Hid (∀ k : Nat, k < n → l0[k]? = some (lpB sc O lat h k)) := hide (fun k hk => bkO_end hsok.out (by omega) hok.out.bound hlb.out (by omega) hwo.out k hk)
          have hcell : Hid (∀ k : Nat, k < n → ∀ w', Below V.heap.size V w' → w'.cell? ⟨X.heap.size, k, none⟩ = some (.bool (lpB sc O lat h k))) := hide (fun k hk w' hb => by
            rw [hb.cell (p := ⟨X.heap.size, k, none⟩) (row_lt hmk.out (k := X.heap.size) rfl).2.1]
            exact OwnB.cell hmk.out (hin.out k hk) hk)
          have hwV : Hid (∀ w', Below V.heap.size V w' → Below w.heap.size w w') := hide (fun w' h => hwX.out w' (hbel.trans (h.mono hbel.size)))
          have hVs : Hid (w.heap.size ≤ V.heap.size) := hide (Nat.le_trans hwXs.out hbel.size)
          have hselfV := Below.refl V.heap.size V
          obtain ⟨gB, hgB⟩ : ∃ gB, gB = X.heap.size := ⟨_, rfl⟩
          rw [← hgB] at hcell ⊢
          have hst2 : Hid (OwnI V V.heap.size (.slice none 0 0) (lpL sc O lat h 0)) := hide (by rw [lpL_zero]; exact OwnI.nil_)
          clear hbel hmk hwo hmu hin hgB p0 p1 p2 p3
          go_wp2
          go_loopw [15, 16] (fun s5 j wr => ∃ (i : Nat) (A : Option Addr) (C : Nat) (q : List Int), j = .int .i64 i ∧ s5 = .slice A q.length C ∧ i ≤ n ∧ Hid (q = lpL sc O lat h i) ∧ Hid (OwnI wr V.heap.size (.slice A q.length C) q) ∧ Below V.heap.size V wr) (fun _ j _ => n - (intOf j).toNat)
          case atStart => exact ⟨0, none, 0, [], rfl, rfl, Nat.zero_le _, hide rfl, hst2, hselfV⟩
          case round =>
            clear hst2 hselfV
            rename World => Z
            obtain ⟨i, Ar, kr, r, rfl, rfl, hi, hre, hrow, hbel⟩ := hrel
            by_cases hlti : i < n
            · have hii : (i : Int) < (n : Int) := by omega
              have rc0 := hcell.out i hlti Z hbel
              have hstep := lpL_step (sc := sc) (o := O) (lat := lat) (h := h) (i := i)
              rw [← hre.out] at hstep
              obtain ⟨d, hd⟩ : ∃ d, Hid (lpB sc O lat h i = d) := ⟨_, hide rfl⟩
              rw [hd.out] at hstep rc0
              have hbs := hbel.size
              cases d with
              | true =>
                have hrl : r.length ≤ 2000000 := by have := lpL_len (sc := sc) (o := O) (lat := lat) (h := h) (n := i); rw [hre.out]; omega
                have hbI : Hid (I64 i) := hide (i64_mk (by omega) (by omega))
                have hnx : Hid (r ++ [(i : Int)] = lpL sc O lat h (i + 1)) := hide (by rw [hstep, if_pos rfl])
                replace hstep := hide hstep
                go_wp2_with (first
                  | (at_builtin
                     refine wpList_append_own _ rfl (.tmp 92) (.tmp 94) _ rfl V.heap.size 3 i0 _ 1 8 Try.underlying22 hi0.out hz0.out hz1.out hz2.out rfl (by omega) (.slice Ar r.length kr) _ _ rfl (hrow.out.row.alloc _) ⟨Z.heap.size, 0, none⟩ 1 1 [.int .i64 i] rfl rfl ?c1 ?c2 ?c3 ?c4 ?c5 ?_
                     case c1 => exact World.news_of_block (cs := #[.int .i64 i]) (t := 3) (fr := (0, 0)) (heap_alloc_new Z _)
                     case c2 => simp [Value.oneCell']
                     case c3 => unfold maxLen; omega
                     case c4 => omega
                     case c5 => first | (simp; omega) | simp | omega
                     intro v1 w1 hown1 hg1 _
                     have hbw1 : Below V.heap.size V w1 := (hbel.alloc hbs _).grown hg1 (by simp; omega) (fun k hk => (row_lt hrow.out.row hk).1)
                     obtain ⟨A8, C8, hv8⟩ := row_form (OwnI.snoc hrow.out.ok hbI.out hown1).row
                     have hL := hide (OwnI.snoc hrow.out.ok hbI.out hown1)
                     subst hv8
                     replace hown1 := hide hown1
                     replace hg1 := hide hg1))
                go_roundw
                case rel => exact ⟨i + 1, A8, C8, r ++ [(i : Int)], by go_num, by simp, hlti, hnx, hL, hbw1⟩
                case measure => simp [intOf]; omega
              | false =>
                have hnx : Hid (r = lpL sc O lat h (i + 1)) := hide (by rw [hstep]; simp)
                replace hstep := hide hstep
                go_wp2
                go_roundw
                case rel => exact ⟨i + 1, Ar, kr, r, by go_num, rfl, hlti, hnx, hrow, hbel⟩
                case measure => simp [intOf]; omega
            · obtain rfl : i = n := by omega
              have hfin : Hid (OwnI Z w.heap.size (.slice Ar r.length kr) (lpL sc O lat h i)) := hide (by rw [← hre.out]; exact hrow.out.mono hVs.out)
              have hw := hide (hwV.out Z hbel)
              go_wp2
              go_ret
              exact ⟨_, rfl, hfin.out, hw.out⟩
        | true =>
          have hst := hide (bkR_start hwo.out)
          go_wp2
          go_loopw [11, 12] (fun m i wr => ∃ (d : Nat) (l : List Bool) (more : Bool), i = .int .i64 d ∧ m = .bool more ∧ d ≤ n ∧ Hid (BkR sc O lat h n l0 l more d) ∧ Hid (wr.ownsRow X.heap.size 4 1 (.slice (some ⟨X.heap.size, 0, none⟩) n n) n (l.map Value.bool)) ∧ Below X.heap.size X wr) (fun _ i _ => n - (intOf i).toNat)
          case atStart => exact ⟨0, l0, false, rfl, rfl, Nat.zero_le _, hst, hmk, hbel⟩
          case round =>
            clear hst hmk hbel V
            rename World => V
            obtain ⟨d, l1, more1, rfl, rfl, hd, hwi, hmk, hbel⟩ := hrel
            by_cases hltd : d < n
            · have hdi : (d : Int) < (n : Int) := by omega
              have hbs := hbel.size
              obtain ⟨bd, hbd⟩ := get_ex (l := l1) (k := d) (by rw [hwi.out.inv.len]; exact hltd)
              have s0 : V.cell? ⟨X.heap.size, d, none⟩ = some (.bool bd) := OwnB.cell hmk.out hbd.out hltd
              have rre0 := rre.out d _ (hRat.out d hltd) V hbel
              cases bd with
              | true =>
                have hnext := hide (bkR_skip hwi.out (.inl hbd.out))
                go_wp2
                go_roundw
                case rel => exact ⟨d + 1, l1, more1, by go_num, rfl, hltd, hnext, hmk, hbel⟩
                case measure => simp [intOf]; omega
              | false =>
                by_cases hdO : (d : Int) ∈ O
                · rw [decide_eq_true hdO] at rre0
                  have hd00 : Hid (l0[d]? = some false) := hide (by
                    obtain ⟨b, hb⟩ : ∃ b, l0[d]? = some b := ⟨_, List.getElem?_eq_getElem (by rw [hwo.out.len]; exact hltd)⟩
                    cases b with
                    | false => exact hb
                    | true => have := hwi.out.inv.keep d hb; rw [hbd.out] at this; cases this)
                  have hst2 := hide (bkR_in hwi.out hdO)
                  replace hdO := hide hdO
                  have hsl : (sc d).length ≤ n := succ_len (hsok.out d)
                  go_wp2_with (first
                    | (go_at_call 48; refine (cSu.out d _ (hWX.out V hbel)).mono ?_; rintro e Y ⟨vS, rfl, hS, hb5⟩; obtain ⟨Ad, kd, hvS, hdr⟩ := int_only (S := fun k => k = X.heap.size) hS (fun k hk => by have e : k = X.heap.size := hk; have := (row_lt hmk.out (k := X.heap.size) rfl).2.1; omega); subst hvS; replace hdr := hide hdr; have hbelY := hbel.trans (hb5.mono hbs); have hmkY := hide (row_kept hmk.out fun k hk => hb5.block k (row_lt hmk.out hk).2.1); clear hS hb5))
                  have honY := Only.refl (fun k => k = X.heap.size) Y.heap.size Y
                  clear s0 rre0 hmk hwi
                  go_wp2
                  go_loopw [11, 14] (fun m i wr => ∃ (j : Nat) (l : List Bool) (more : Bool), i = .int .i64 j ∧ m = .bool more ∧ j ≤ (sc d).length ∧ Hid (BkIn sc O lat h n l0 l more d j) ∧ Hid (wr.ownsRow X.heap.size 4 1 (.slice (some ⟨X.heap.size, 0, none⟩) n n) n (l.map Value.bool)) ∧ Only (fun k => k = X.heap.size) Y.heap.size Y wr) (fun _ i _ => (sc d).length - (intOf i).toNat)
                  case atStart => exact ⟨0, l1, more1, rfl, rfl, Nat.zero_le _, hst2, hmkY, honY⟩
                  case round =>
                    clear hst2 hmkY honY
                    obtain ⟨j, l2, more2, rfl, rfl, hj, hwi, hmk, hon⟩ := hrel
                    have hl2 := hwi.out.rnd.inv.len
                    by_cases hltj : j < (sc d).length
                    · have hji : (j : Int) < ((sc d).length : Int) := by omega
                      obtain ⟨t, ht⟩ := get_ex (l := sc d) (k := j) hltj
                      have htb := (hsok.out d).bound t (List.mem_of_getElem? ht.out)
                      obtain ⟨tn, rfl⟩ := Int.eq_ofNat_of_zero_le htb.1
                      have htn : tn < n := by have := htb.2; omega
                      clear htb
                      obtain ⟨g5, hg5, hgr⟩ := hdr.out (by omega)
                      cases hg5
                      have r0 := hgr j _ ht.out
                      clear hgr
                      obtain ⟨bt, hbt⟩ := get_ex (l := l2) (k := tn) (by omega)
                      have s1 : wr.cell? ⟨X.heap.size, tn, none⟩ = some (.bool bt) := OwnB.cell hmk.out hbt.out htn
                      by_cases hgt : ((tn : Nat) : Int) = (h : Int)
                      · have hgf : (((tn : Nat) : Int) != (h : Int)) = false := by rw [hgt]; simp
                        have hnext := hide (bkI_skip hwi.out ht.out (.inl hgt))
                        replace hgt := hide hgt
                        go_wp2
                        go_roundw
                        case rel => exact ⟨j + 1, l2, more2, by go_num, rfl, hltj, hnext, hmk, hon⟩
                        case measure => simp [intOf]; omega
                      · have hgf : (((tn : Nat) : Int) != (h : Int)) = true := by rw [bne_iff_ne]; exact hgt
                        cases bt with
                        | false =>
                          have hnext := hide (bkI_skip hwi.out ht.out (.inr hbt.out))
                          replace hgt := hide hgt
                          go_wp2
                          go_roundw
                          case rel => exact ⟨j + 1, l2, more2, by go_num, rfl, hltj, hnext, hmk, hon⟩
                          case measure => simp [intOf]; omega
                        | true =>
                          have hnext := hide (bkI_mark hwi.out hltd ht.out hgt hbt.out hd00.out)
                          obtain ⟨bd, hbd9⟩ := get_ex (l := l2) (k := d) (by omega)
                          have s2 : wr.cell? ⟨X.heap.size, d, none⟩ = some (.bool bd) := OwnB.cell hmk.out hbd9.out hltd
                          have f1 : wr.frozen? ⟨X.heap.size, d, none⟩ = false := World.ownsRow.frozenAt hmk.out d
                          have st := (World.ownsRow.stored hmk.out d (.bool true)).1
                          rw [bmap_set] at st
                          replace st := hide st
                          have hon9 := hide (hon.setCell (S := fun k => k = X.heap.size) (p := ⟨X.heap.size, d, none⟩) (.inl rfl) (.bool true))
                          replace hgt := hide hgt
                          go_wp2
                          go_roundw
                          case rel => exact ⟨j + 1, _, true, by go_num, rfl, hltj, hnext, st, hon9.out⟩
                          case measure => simp [intOf]; omega
                    · obtain rfl : j = (sc d).length := by omega
                      have hnext := hide (bkI_end hwi.out)
                      have hb9 := hide (hbelY.trans (hon.to_below (fun k hk => by have e : k = X.heap.size := hk; omega) hbelY.size))
                      go_wp2
                      go_roundw
                      case rel => exact ⟨d + 1, l2, more2, by go_num, rfl, hltd, hnext, hmk, hb9.out⟩
                      case measure => simp [intOf]; omega
                · rw [decide_eq_false hdO] at rre0
                  have hnext := hide (bkR_skip hwi.out (.inr hdO))
                  replace hdO := hide hdO
                  go_wp2
                  go_roundw
                  case rel => exact ⟨d + 1, l1, more1, by go_num, rfl, hltd, hnext, hmk, hbel⟩
                  case measure => simp [intOf]; omega
            · obtain rfl : d = n := by omega
              have hwo2 := hide (bkR_out hwo.out hwi.out)
              have hlt9 : Hid (2 * l1.count false + b01 more1 < gk) := hide (by
                rw [← hmu.out]
                cases more1 with
                | true => have := hwi.out.inv.less rfl; simp only [b01]; omega
                | false => rw [hwi.out.inv.same rfl]; simp only [b01]; omega)
              go_wp2
              go_roundg (2 * l1.count false + b01 more1)
              case measure => exact hlt9.out
              case rel => exact ⟨l1, more1, rfl, rfl, hwo2, hmk, hbel⟩
end Go.Proofs.Ytidjaohlaljmpaa

namespace Go.Proofs.Ytidjaohlaljmpaa
open Go.RowKit
set_option linter.unusedSimpArgs false
set_option linter.unusedVariables false

open Classical in
noncomputable def exA (sc : Int → List Int) (lp : List Int) (t : Int) (c : Nat) : Bool := decide (∃ b, b ∈ lp.take c ∧ t ∈ sc b)
theorem exA_iff {sc : Int → List Int} {lp : List Int} {c : Nat} {t : Int} : exA sc lp t c = true ↔ ∃ b, b ∈ lp.take c ∧ t ∈ sc b := by unfold exA; exact decide_eq_true_iff
theorem exA_zero {sc : Int → List Int} {lp : List Int} {t : Int} : exA sc lp t 0 = false := by rw [← Bool.not_eq_true, exA_iff]; simp
theorem exA_step {sc : Int → List Int} {lp : List Int} {c : Nat} {x t : Int} (hx : lp[c]? = some x) : exA sc lp t (c + 1) = (exA sc lp t c || decide (t ∈ sc x)) := by
  rw [Bool.eq_iff_iff, exA_iff, Bool.or_eq_true, exA_iff, decide_eq_true_iff, List.take_add_one, hx]
  simp only [Option.toList_some, List.mem_append, List.mem_singleton]
  constructor
  · rintro ⟨b, h1 | h1, h2⟩
    · exact .inl ⟨b, h1, h2⟩
    · exact .inr (h1 ▸ h2)
  · rintro (⟨b, h1, h2⟩ | h)
    · exact ⟨b, .inl h1, h2⟩
    · exact ⟨x, .inr rfl, h⟩
def InsC (ins : Bool) (c : Nat) : Prop := ins = true → c = 0
set_option maxRecDepth 100000 in
set_option maxHeartbeats 12800000 in
theorem rexits_any (f : Fun) (lp : List Int) (AL : Option Addr) (CL BL : Nat) (c1 c2 : Value) (w : World) (B : Nat) (hB : B ≤ w.heap.size) (hlp : OwnI w BL (.slice AL lp.length CL) lp) (hll : lp.length ≤ 2000000)
    (hf : RFun.rep w B [.string f.name, c1, .int .i64 f.ret, c2] f) (hs : Small f) :
    Calls Try.prog 43 #[f.v c1 c2, .slice AL lp.length CL] w (SuccPost (exL (succsF f.blocks) lp f.blocks.length) w) := by
  obtain ⟨hp, hb⟩ := fun_open (RFun.later hf (Below.refl _ _) hB)
  obtain ⟨A1, k1, h1, -, -⟩ := Rp.slice1_open hp
  obtain ⟨A2, k2, h2, hm2, -⟩ := Rp.slice1_open hb
  cases h1; cases h2
  clear hp hb
  obtain ⟨n, hn⟩ : ∃ n, Hid (n = f.blocks.length) := ⟨_, hide rfl⟩
  have hnle : n ≤ 2000000 := by rw [hn.out]; exact hs.blocks
  obtain ⟨O, hO⟩ : ∃ O, Hid (O = orderF f.blocks) := ⟨_, hide rfl⟩
  obtain ⟨sc, hsc⟩ : ∃ sc, Hid (sc = succsF f.blocks) := ⟨_, hide rfl⟩
  obtain ⟨R, hR⟩ : ∃ R, Hid (R = reachF f.blocks) := ⟨_, hide rfl⟩
  obtain ⟨P, hP⟩ : ∃ P, Hid (P = predsL sc n) := ⟨_, hide rfl⟩
  have hPl : P.length = n := by rw [hP.out, predsL_len]
  have hRl : R.length = n := by rw [hR.out, hn.out, reach_len]
  have hsok : Hid (∀ b, SuccOk n (sc b)) := hide (fun b => by rw [hsc.out, hn.out]; exact succsF_ok _ _)
  have hok : Hid (OrderOk n sc O) := hide (by rw [hO.out, hn.out, hsc.out]; exact order_ok _)
  have hol : O.length ≤ n := by rw [hO.out, hn.out]; exact order_len _
  have hRat : Hid (∀ k : Nat, k < n → R[k]? = some (decide ((k : Int) ∈ O))) := hide (fun k hk => by rw [hR.out, hO.out]; exact reach_at _ _ (by rw [← hn.out]; exact hk))
  rw [← hn.out, ← hsc.out]
  rw [← hn.out] at hf hm2
  obtain ⟨W, hW, hwW, hWs, hx⟩ := boxes1 w #[.string f.name, .slice A1 f.params.length k1, .int .i64 f.ret, .slice A2 n k2] 25
  have q0 : ∀ w', Below W.heap.size W w' → w'.cell? ⟨w.heap.size, 0, none⟩ = some (.string f.name) := hx 0 _ rfl
  have q1 : ∀ w', Below W.heap.size W w' → w'.cell? ⟨w.heap.size, 1, none⟩ = some (.slice A1 f.params.length k1) := hx 1 _ rfl
  have q2 : ∀ w', Below W.heap.size W w' → w'.cell? ⟨w.heap.size, 2, none⟩ = some (.int .i64 f.ret) := hx 2 _ rfl
  have q3 : ∀ w', Below W.heap.size W w' → w'.cell? ⟨w.heap.size, 3, none⟩ = some (.slice A2 n k2) := hx 3 _ rfl
  clear hx
  have hws : w.heap.size ≤ W.heap.size := by omega
  replace hWs := hide hWs
  have hself := Below.refl W.heap.size W
  have hF : Hid (∀ w', Below W.heap.size W w' → RFun.rep w' w'.heap.size [.string f.name, .slice A1 f.params.length k1, .int .i64 f.ret, .slice A2 n k2] f) := hide (fun w' h => RFun.later hf ((hwW.trans (h.mono hws)).mono hB) (Nat.le_trans hB (hwW.trans (h.mono hws)).size))
  have cSu : Hid (∀ (b : Int) w', Below W.heap.size W w' → Calls Try.prog 48 #[f.v (.slice A1 f.params.length k1) (.slice A2 n k2), .int .i64 b] w' (SuccPost (sc b) w')) := hide (fun b w' hb => by
    have := rsuccs_any f b (.slice A1 f.params.length k1) (.slice A2 n k2) w' w'.heap.size (Nat.le_refl _) (hF.out w' hb) hs
    rwa [← hsc.out] at this)
  replace hs := hide hs
  replace hf := hide hf
  replace hwW := hide hwW
  obtain ⟨i0, hi0, hz0, hz1, hz2⟩ := cinfo_parts cinfo_int
  replace hi0 := hide hi0
  replace hz0 := hide hz0
  replace hz1 := hide hz1
  replace hz2 := hide hz2
  obtain ⟨AL', CL', heL, hLx⟩ := int_reads hlp
  simp only [Value.slice.injEq] at heL
  obtain ⟨heA, -, heC⟩ := heL
  subst heA heC
  have hwX : Hid (∀ w', Below W.heap.size W w' → Below w.heap.size w w') := hide (fun w' h => hwW.out.trans (h.mono hws))
  have cH : Hid (∀ (t : Int) w', Below W.heap.size W w' → Calls Try.prog 23 #[.slice AL lp.length CL, .int .i64 t] w' fun e w'' => e = .returned (.bool (decide (t ∈ lp))) ∧ w'' = w') := hide (fun t w' h => has13_any AL CL lp t w' BL (by omega) (hlp.below (hwX.out w' h)))
  replace hLx := hide hLx
  replace hlp := hide hlp
  obtain ⟨m, hm⟩ : ∃ m, Hid (m = lp.length) := ⟨_, hide rfl⟩
  rw [← hm.out] at hll cH ⊢
  replace hW := hide hW
  have hst : Hid (OwnI W W.heap.size (.slice none 0 0) (exL sc lp 0)) := hide OwnI.nil_
  go_enter Try.func43, Try.ntmps43
  go_upto_region 1 with (fail)
  rw [hW.out]
  clear hW
  go_wp2
  go_loopw [5, 6] (fun s5 j wr => ∃ (i : Nat) (A : Option Addr) (C : Nat) (q : List Int), j = .int .i64 i ∧ s5 = .slice A q.length C ∧ i ≤ n ∧ Hid (q = exL sc lp i) ∧ Hid (OwnI wr W.heap.size (.slice A q.length C) q) ∧ Below W.heap.size W wr) (fun _ j _ => n - (intOf j).toNat)
  case atStart => exact ⟨0, none, 0, [], rfl, rfl, Nat.zero_le _, hide rfl, hst, hself⟩
  case round =>
    clear hst hself
    rename World => V
    obtain ⟨i, Ar, kr, r, rfl, rfl, hi, hre, hrow, hbel⟩ := hrel
    have hbs := hbel.size
    by_cases hlti : i < n
    · have hii : (i : Int) < (n : Int) := by omega
      obtain ⟨ins, hins⟩ : ∃ ins, Hid (decide ((i : Int) ∈ lp) = ins) := ⟨_, hide rfl⟩
      have cH0 := hide (cH.out i V hbel)
      rw [hins.out] at cH0
      have hrow0 : Hid (OwnI V V.heap.size (.slice none 0 0) ([] : List Int)) := hide OwnI.nil_
      go_wp2_with (go_at_call 23; refine cH0.out.mono ?_; rintro e V2 ⟨rfl, hV2⟩; replace hV2 := hV2.symm; subst hV2)
      clear cH0 hrow0
      go_loopw [8, 9] (fun s8 j wr => ∃ (c : Nat), j = .int .i64 c ∧ s8 = .bool (exA sc lp i c) ∧ c ≤ m ∧ Hid (InsC ins c) ∧ Hid (OwnI wr W.heap.size (.slice Ar r.length kr) r) ∧ Below W.heap.size W wr) (fun _ j _ => m - (intOf j).toNat)
      case atStart => exact ⟨0, rfl, by rw [exA_zero], Nat.zero_le _, hide (fun _ => rfl), hrow, hbel⟩
      case round =>
        clear hrow hbel hbs V
        rename World => V
        obtain ⟨c, rfl, rfl, hc, hins0, hrow, hbel⟩ := hrel
        obtain ⟨b, hb⟩ : ∃ b, Hid (exA sc lp i c = b) := ⟨_, hide rfl⟩
        rw [hb.out]
        have hbs := hbel.size
        by_cases hgo : c < m ∧ ins = false
        · have hltc := hgo.1
          have hfi := hgo.2
          subst hfi
          have hci : (c : Int) < (m : Int) := by omega
          have hdc : decide ((c : Int) < (m : Int)) = true := decide_eq_true hci
          obtain ⟨x, hx⟩ := get_ex (l := lp) (k := c) (by rw [← hm.out]; exact hltc)
          obtain ⟨g5, hg5, rx⟩ := hLx.out (by rw [← hm.out]; omega)
          subst hg5
          have rx0 : ∀ w', Below V.heap.size V w' → w'.cell? ⟨g5, c, none⟩ = some (.int .i64 x) := fun w' h => rx c _ hx.out w' (hwX.out w' (hbel.trans (h.mono hbs)))
          clear rx
          have z0 : ∀ w', Below V.heap.size V w' → w'.cell? ⟨w.heap.size, 0, none⟩ = some (.string f.name) := fun w' h => q0 w' (hbel.trans (h.mono hbs))
          have z1 : ∀ w', Below V.heap.size V w' → w'.cell? ⟨w.heap.size, 1, none⟩ = some (.slice A1 f.params.length k1) := fun w' h => q1 w' (hbel.trans (h.mono hbs))
          have z2 : ∀ w', Below V.heap.size V w' → w'.cell? ⟨w.heap.size, 2, none⟩ = some (.int .i64 f.ret) := fun w' h => q2 w' (hbel.trans (h.mono hbs))
          have z3 : ∀ w', Below V.heap.size V w' → w'.cell? ⟨w.heap.size, 3, none⟩ = some (.slice A2 n k2) := fun w' h => q3 w' (hbel.trans (h.mono hbs))
          have hselfV := Below.refl V.heap.size V
          have hcS := hide (cSu.out x V.drew (hbel.trans (hselfV.drew.mono hbs)))
          have hstep := exA_step (sc := sc) (t := (i : Int)) hx.out
          rw [hb.out] at hstep
          have hrowV := hide (fun w' (h : Below V.heap.size V w') => hrow.out.kept (w' := w') fun k _ hk => h.block k hk)
          have hbelV := hide (fun w' (h : Below V.heap.size V w') => hbel.trans (h.mono hbs))
          have hsl : Hid ((sc x).length ≤ n) := hide (succ_len (hsok.out x))
          clear hgo hins0 hrow hbel
          replace hb := hide hstep
          clear hstep
          go_upto_region 10 with (fail)
          go_region_held3 (fun w' => Below V.heap.size V w') (first | (with_reducible assumption) | exact hselfV.drew)
            (first
              | (go_at_call 48; refine hcS.out.mono ?_; rintro e Y ⟨vS, rfl, hS, hb4⟩; have hkY : Below V.heap.size V Y := hselfV.drew.trans (hb4.mono (Nat.le_refl _)); obtain ⟨AS, CS, hvS⟩ := row_form hS.row; subst hvS; have hS2 := hide hS; clear hS hb4))
          have hrowY := hide (hrowV.out Y hkY)
          have hbelY := hbelV.out Y hkY
          obtain ⟨e9, he9⟩ : ∃ e9, Hid (decide ((i : Int) ∈ sc x) = e9) := ⟨_, hide rfl⟩
          have cH2 := hide (has13_any AS CS (sc x) (i : Int) Y V.heap.size (by have := hsl.out; omega) hS2.out)
          rw [he9.out] at cH2 hb
          replace hS2 := hide hS2
          clear hrowV hbelV hkY hselfV z0 z1 z2 z3 rx0 hcS
          cases b with
          | true =>
            go_wp2_with (go_at_call 23; refine cH2.out.mono ?_; rintro e V2 ⟨rfl, hV2⟩; replace hV2 := hV2.symm; subst hV2)
            go_roundw
            case rel => exact ⟨c + 1, by go_num, by rw [hb.out]; rfl, hltc, hide (fun h => by cases h), hrowY, hbelY⟩
            case measure => simp [intOf]; omega
          | false =>
            go_wp2_with (go_at_call 23; refine cH2.out.mono ?_; rintro e V2 ⟨rfl, hV2⟩; replace hV2 := hV2.symm; subst hV2)
            go_roundw
            case rel => exact ⟨c + 1, by go_num, by rw [hb.out, Bool.false_or], hltc, hide (fun h => by cases h), hrowY, hbelY⟩
            case measure => simp [intOf]; omega
        · have hstep := exL_step (sc := sc) (lp := lp) (i := i)
          rw [← hre.out] at hstep
          have hbx : exB sc lp i = b := by
            rw [← hb.out, Bool.eq_iff_iff, exB_iff, exA_iff]
            cases ins with
            | true =>
              have hc0 := hins0.out rfl
              subst hc0
              have := hins.out
              rw [decide_eq_true_iff] at this
              simp [this]
            | false =>
              have : c = m := by
                rcases Nat.lt_or_ge c m with h | h
                · exact absurd ⟨h, rfl⟩ hgo
                · omega
              have h2 := hins.out
              rw [decide_eq_false_iff_not] at h2
              rw [this, hm.out, List.take_length]
              simp [h2]
          rw [hbx] at hstep
          have hway : ¬ (c : Int) < (m : Int) ∨ ((c : Int) < (m : Int) ∧ ins = true) := by
            by_cases hcm : c < m
            · refine .inr ⟨by omega, ?_⟩
              cases ins with
              | true => rfl
              | false => exact absurd ⟨hcm, rfl⟩ hgo
            · exact .inl (by omega)
          replace hbx := hide hbx
          clear hgo hins0
          have hrl : r.length ≤ 2000000 := by have := exL_len (sc := sc) (lp := lp) (n := i); rw [hre.out]; omega
          have hbI : Hid (I64 i) := hide (i64_mk (by omega) (by omega))
          cases b with
          | true =>
            have hnx : Hid (r ++ [(i : Int)] = exL sc lp (i + 1)) := hide (by rw [hstep, if_pos rfl])
            replace hstep := hide hstep
            rcases hway with hw1 | ⟨hw1, rfl⟩
            all_goals
              go_wp2_with (first
                | (at_builtin
                   refine wpList_append_own _ rfl (.tmp 46) (.tmp 48) _ rfl W.heap.size 3 i0 _ 1 8 Try.underlying22 hi0.out hz0.out hz1.out hz2.out rfl (by omega) (.slice Ar r.length kr) _ _ rfl (hrow.out.row.alloc _) ⟨V.heap.size, 0, none⟩ 1 1 [.int .i64 i] rfl rfl ?c1 ?c2 ?c3 ?c4 ?c5 ?_
                   case c1 => exact World.news_of_block (cs := #[.int .i64 i]) (t := 3) (fr := (0, 0)) (heap_alloc_new V _)
                   case c2 => simp [Value.oneCell']
                   case c3 => unfold maxLen; omega
                   case c4 => omega
                   case c5 => first | (simp; omega) | simp | omega
                   intro v1 w1 hown1 hg1 _
                   have hbw1 : Below W.heap.size W w1 := (hbel.alloc hbs _).grown hg1 (by simp; omega) (fun k hk => (row_lt hrow.out.row hk).1)
                   obtain ⟨A8, C8, hv8⟩ := row_form (OwnI.snoc hrow.out.ok hbI.out hown1).row
                   have hL := hide (OwnI.snoc hrow.out.ok hbI.out hown1)
                   subst hv8
                   replace hown1 := hide hown1
                   replace hg1 := hide hg1))
              go_roundw
              case rel => exact ⟨i + 1, A8, C8, r ++ [(i : Int)], by go_num, by simp, hlti, hnx, hL, hbw1⟩
              case measure => simp [intOf]; omega
          | false =>
            have hnx : Hid (r = exL sc lp (i + 1)) := hide (by rw [hstep]; simp)
            replace hstep := hide hstep
            rcases hway with hw1 | ⟨hw1, rfl⟩
            all_goals
              go_wp2
              go_roundw
              case rel => exact ⟨i + 1, Ar, kr, r, by go_num, rfl, hlti, hnx, hrow, hbel⟩
              case measure => simp [intOf]; omega
    · obtain rfl : i = n := by omega
      have hfin : Hid (OwnI V w.heap.size (.slice Ar r.length kr) (exL sc lp i)) := hide (by rw [← hre.out]; exact hrow.out.mono hws)
      have hw := hide (hwX.out V hbel)
      go_wp2
      go_ret
      exact ⟨_, rfl, hfin.out, hw.out⟩
end Go.Proofs.Ytidjaohlaljmpaa

namespace Go.Proofs.Ytidjaohlaljmpaa
open Go.RowKit
set_option linter.unusedSimpArgs false
set_option linter.unusedVariables false

noncomputable def dS (sc : Int → List Int) (o : List Int) (P : List (List Int)) (n i d : Nat) : List Lp := (headsS sc o P n).mapIdx fun k h => { lp0 sc o P n h with depth := if k < i then inF sc o P n h else if k = i then d else 0 }
noncomputable def cntS (sc : Int → List Int) (o : List Int) (P : List (List Int)) (n h j : Nat) : Nat := (((headsS sc o P n).take j).filter fun k => lpB sc o (latF sc o P k) k h).length
section
variable {sc : Int → List Int} {o : List Int} {P : List (List Int)} {n i d h j k : Nat}
theorem dS_len : (dS sc o P n i d).length = (headsS sc o P n).length := by simp [dS]
theorem dS_at (hh : (headsS sc o P n)[k]? = some h) : (dS sc o P n i d)[k]? = some { lp0 sc o P n h with depth := if k < i then inF sc o P n h else if k = i then d else 0 } := by simp [dS, hh]
theorem dS_none (hk : (headsS sc o P n).length ≤ k) : (dS sc o P n i d)[k]? = none := List.getElem?_eq_none (by rw [dS_len]; exact hk)
theorem dS_ext {l : List Lp} (hl : l.length = (headsS sc o P n).length) (H : ∀ (k h : Nat), (headsS sc o P n)[k]? = some h → l[k]? = some { lp0 sc o P n h with depth := if k < i then inF sc o P n h else if k = i then d else 0 }) : l = dS sc o P n i d := by
  refine List.ext_getElem? fun k => ?_
  by_cases hk : k < (headsS sc o P n).length
  · have e : (headsS sc o P n)[k]? = some ((headsS sc o P n)[k]) := List.getElem?_eq_getElem hk
    rw [H k _ e, dS_at e]
  · rw [dS_none (by omega), List.getElem?_eq_none (by omega)]
theorem dS_start : lps0 sc o P n n = dS sc o P n 0 0 := dS_ext (by simp [lps0]) fun k h hk => by
  unfold lps0
  rw [List.getElem?_map, hk]
  simp [lp0]
theorem dS_end : dS sc o P n (headsS sc o P n).length 0 = loopsS sc o P n := (by
  symm
  refine dS_ext (by simp [loopsS]) fun k h hk => ?_
  unfold loopsS
  have := (List.getElem?_eq_some_iff.1 hk).1
  rw [List.getElem?_map, hk, if_pos this]
  rfl)
theorem dS_next (hh : (headsS sc o P n)[i]? = some h) : dS sc o P n i (inF sc o P n h) = dS sc o P n (i + 1) 0 := dS_ext dS_len fun k h' hk => by
  rw [dS_at hk]
  by_cases e : k < i
  · rw [if_pos e, if_pos (by omega)]
  · by_cases e2 : k = i
    · subst e2
      rw [hk] at hh
      cases hh
      rw [if_neg e, if_pos rfl, if_pos (by omega)]
    · rw [if_neg e, if_neg e2, if_neg (by omega)]
      by_cases e3 : k = i + 1 <;> simp [e3]
theorem dS_set {d' : Nat} (hh : (headsS sc o P n)[i]? = some h) : (dS sc o P n i d).set i { ({ lp0 sc o P n h with depth := d } : Lp) with depth := d' } = dS sc o P n i d' := dS_ext (by rw [List.length_set, dS_len]) fun k h' hk => by
  by_cases e : i = k
  · subst e
    rw [hk] at hh
    cases hh
    rw [List.getElem?_set_self (by rw [dS_len]; exact (List.getElem?_eq_some_iff.1 hk).1)]
    simp
  · rw [List.getElem?_set_ne e, dS_at hk]
    have e2 : ¬ k = i := fun e3 => e e3.symm
    rw [if_neg e2, if_neg e2]
theorem dS_here (hh : (headsS sc o P n)[i]? = some h) : (dS sc o P n i d)[i]? = some { lp0 sc o P n h with depth := d } := by rw [dS_at hh]; simp
theorem cntS_zero : cntS sc o P n h 0 = 0 := by simp [cntS]
theorem cntS_step (hk : (headsS sc o P n)[j]? = some k) : cntS sc o P n h (j + 1) = cntS sc o P n h j + (if lpB sc o (latF sc o P k) k h = true then 1 else 0) := by
  unfold cntS
  rw [List.take_add_one, hk, List.filter_append, List.length_append]
  by_cases e : lpB sc o (latF sc o P k) k h = true
  · simp [e]
  · simp [e]
theorem cntS_end : cntS sc o P n h (headsS sc o P n).length = inF sc o P n h := by unfold cntS inF; rw [List.take_length]
theorem cntS_le : cntS sc o P n h j ≤ n := by
  unfold cntS
  refine Nat.le_trans (List.length_filter_le ..) ?_
  rw [List.length_take]
  have := headsS_len (sc := sc) (o := o) (P := P) (a := n)
  omega
end
def LoopPost (ls : List Lp) (w : World) (e : Ending) (w' : World) : Prop := ∃ v es, e = .returned v ∧ OwnLp w' w.heap.size v ls es ∧ Below w.heap.size w w'
set_option maxRecDepth 100000 in
set_option maxHeartbeats 12800000 in
theorem rfind_any (f : Fun) (c1 c2 : Value) (w : World) (B : Nat) (hB : B ≤ w.heap.size) (hf : RFun.rep w B [.string f.name, c1, .int .i64 f.ret, c2] f) (hs : Small f) :
    Calls Try.prog 15 #[f.v c1 c2] w (LoopPost (loopsS (succsF f.blocks) (orderF f.blocks) (predsL (succsF f.blocks) f.blocks.length) f.blocks.length) w) := by
  obtain ⟨hp, hb⟩ := fun_open (RFun.later hf (Below.refl _ _) hB)
  obtain ⟨A1, k1, h1, -, -⟩ := Rp.slice1_open hp
  obtain ⟨A2, k2, h2, hm2, -⟩ := Rp.slice1_open hb
  cases h1; cases h2
  clear hp hb
  obtain ⟨n, hn⟩ : ∃ n, Hid (n = f.blocks.length) := ⟨_, hide rfl⟩
  have hnle : n ≤ 2000000 := by rw [hn.out]; exact hs.blocks
  obtain ⟨O, hO⟩ : ∃ O, Hid (O = orderF f.blocks) := ⟨_, hide rfl⟩
  obtain ⟨sc, hsc⟩ : ∃ sc, Hid (sc = succsF f.blocks) := ⟨_, hide rfl⟩
  obtain ⟨R, hR⟩ : ∃ R, Hid (R = reachF f.blocks) := ⟨_, hide rfl⟩
  obtain ⟨P, hP⟩ : ∃ P, Hid (P = predsL sc n) := ⟨_, hide rfl⟩
  have hPl : P.length = n := by rw [hP.out, predsL_len]
  have hRl : R.length = n := by rw [hR.out, hn.out, reach_len]
  have hsok : Hid (∀ b, SuccOk n (sc b)) := hide (fun b => by rw [hsc.out, hn.out]; exact succsF_ok _ _)
  have hok : Hid (OrderOk n sc O) := hide (by rw [hO.out, hn.out, hsc.out]; exact order_ok _)
  have hol : O.length ≤ n := by rw [hO.out, hn.out]; exact order_len _
  have hRat : Hid (∀ k : Nat, k < n → R[k]? = some (decide ((k : Int) ∈ O))) := hide (fun k hk => by rw [hR.out, hO.out]; exact reach_at _ _ (by rw [← hn.out]; exact hk))
  rw [← hn.out, ← hO.out, ← hsc.out]
  rw [← hn.out] at hf hm2
  obtain ⟨W, hW, hwW, hWs, hx⟩ := boxes1 w #[.string f.name, .slice A1 f.params.length k1, .int .i64 f.ret, .slice A2 n k2] 25
  have q0 : ∀ w', Below W.heap.size W w' → w'.cell? ⟨w.heap.size, 0, none⟩ = some (.string f.name) := hx 0 _ rfl
  have q1 : ∀ w', Below W.heap.size W w' → w'.cell? ⟨w.heap.size, 1, none⟩ = some (.slice A1 f.params.length k1) := hx 1 _ rfl
  have q2 : ∀ w', Below W.heap.size W w' → w'.cell? ⟨w.heap.size, 2, none⟩ = some (.int .i64 f.ret) := hx 2 _ rfl
  have q3 : ∀ w', Below W.heap.size W w' → w'.cell? ⟨w.heap.size, 3, none⟩ = some (.slice A2 n k2) := hx 3 _ rfl
  clear hx
  have hws : w.heap.size ≤ W.heap.size := by omega
  replace hWs := hide hWs
  have hself := Below.refl W.heap.size W
  have hF : Hid (∀ w', Below W.heap.size W w' → RFun.rep w' w'.heap.size [.string f.name, .slice A1 f.params.length k1, .int .i64 f.ret, .slice A2 n k2] f) := hide (fun w' h => RFun.later hf ((hwW.trans (h.mono hws)).mono hB) (Nat.le_trans hB (hwW.trans (h.mono hws)).size))
  have cLt : Hid (∀ (a : Nat), a < n → ∀ w', Below W.heap.size W w' → Calls Try.prog 41 #[f.v (.slice A1 f.params.length k1) (.slice A2 n k2), .int .i64 a] w' (SuccPost (latF sc O P a) w')) := hide (fun a ha w' hb => by
    have := rlatches_any f a (.slice A1 f.params.length k1) (.slice A2 n k2) w' w'.heap.size (Nat.le_refl _) (hF.out w' hb) hs
    rw [← hn.out, ← hO.out, ← hsc.out, ← hP.out] at this
    have e : latI sc O P n (a : Int) = latF sc O P a := by unfold latI; rw [if_pos (by omega)]; rfl
    rwa [e] at this)
  have cBk : Hid (∀ (a : Nat), a < n → ∀ (lat : List Int) (AL : Option Addr) (CL BL : Nat) w', Below W.heap.size W w' → OwnI w' BL (.slice AL lat.length CL) lat → (∀ x, x ∈ lat → x ∈ O) → lat.length ≤ 2000000 → Calls Try.prog 42 #[f.v (.slice A1 f.params.length k1) (.slice A2 n k2), .int .i64 a, .slice AL lat.length CL] w' (SuccPost (lpL sc O lat a n) w')) := hide (fun a ha lat AL CL BL w' hb hl hlo hll => by
    have := rblocks_any f a (by rw [← hn.out]; exact ha) lat AL CL BL (.slice A1 f.params.length k1) (.slice A2 n k2) w' w'.heap.size (Nat.le_refl _) hl (by rw [← hO.out]; exact hlo) hll (hF.out w' hb) hs
    rwa [← hn.out, ← hO.out, ← hsc.out] at this)
  have cEx : Hid (∀ (lp : List Int) (AL : Option Addr) (CL BL : Nat) w', Below W.heap.size W w' → OwnI w' BL (.slice AL lp.length CL) lp → lp.length ≤ 2000000 → Calls Try.prog 43 #[f.v (.slice A1 f.params.length k1) (.slice A2 n k2), .slice AL lp.length CL] w' (SuccPost (exL sc lp n) w')) := hide (fun lp AL CL BL w' hb hl hll => by
    have := rexits_any f lp AL CL BL (.slice A1 f.params.length k1) (.slice A2 n k2) w' w'.heap.size (Nat.le_refl _) hl hll (hF.out w' hb) hs
    rwa [← hn.out, ← hsc.out] at this)
  replace hs := hide hs
  replace hf := hide hf
  replace hwW := hide hwW
  rw [← hP.out]
  obtain ⟨m0, hm0, hm1', hm2', hm3'⟩ := cinfo_parts cinfo_Loop
  replace hm0 := hide hm0
  replace hm1' := hide hm1'
  replace hm2' := hide hm2'
  replace hm3' := hide hm3'
  have hwX : Hid (∀ w', Below W.heap.size W w' → Below w.heap.size w w') := hide (fun w' h => hwW.out.trans (h.mono hws))
  have hlo : Hid (∀ a x, x ∈ latF sc O P a → x ∈ O) := hide (fun a x hx => by
    unfold latF at hx
    exact (domB_iff.1 (List.mem_filter.1 hx).2).2.1)
  have hll : Hid (∀ a, a < n → (latF sc O P a).length ≤ n) := hide (fun a ha => by
    obtain ⟨p, hp⟩ := get_ex (l := P) (k := a) (by omega)
    rw [← latP_end hp.out]
    refine Nat.le_trans latP_len ?_
    have hp2 := hp.out
    rw [hP.out] at hp2
    exact range_len n p ((predsL_sorted hp2).imp fun h => by omega) (fun x hx => ⟨((predsL_mem hp2 x).1 hx).1, ((predsL_mem hp2 x).1 hx).2.1⟩))
  replace hW := hide hW
  go_enter Try.func15, Try.ntmps15
  go_upto_region 1 with (fail)
  rw [hW.out]
  clear hW
  go_wp2
  go_loopw [3, 4] (fun s3 j wr => ∃ (a : Nat) (A : Option Addr) (C : Nat) (ls : List Lp) (es : List LpV), j = .int .i64 a ∧ s3 = .slice A ls.length C ∧ a ≤ n ∧ Hid (ls = lps0 sc O P n a) ∧ Hid (OwnLp wr W.heap.size (.slice A ls.length C) ls es) ∧ Below W.heap.size W wr) (fun _ j _ => n - (intOf j).toNat)
  case atStart => exact ⟨0, none, 0, [], [], rfl, rfl, Nat.zero_le _, hide rfl, hide OwnLp.nil_, hself⟩
  case round =>
    clear hself
    rename World => V
    obtain ⟨a, A3, C3, ls, es, rfl, rfl, ha, hls, hrow, hbel⟩ := hrel
    have hbs := hbel.size
    by_cases hlta : a < n
    · have hai : (a : Int) < (n : Int) := by omega
      have hlst := lps0_step (sc := sc) (o := O) (P := P) (n := n) (a := a)
      rw [← hls.out] at hlst
      replace hlst := hide hlst
      obtain ⟨LT, hLT⟩ : ∃ LT, Hid (LT = latF sc O P a) := ⟨_, hide rfl⟩
      have cL0 := hide (cLt.out a hlta V hbel)
      rw [← hLT.out] at cL0
      go_wp2_with (fail)
      refine (cL0.out).mono ?_
      rintro e X1 ⟨vL, rfl, hL, hb1⟩
      obtain ⟨AL, CL, rfl⟩ := row_form hL.row
      have hk1 := hbel.trans (hb1.mono hbs)
      have hrow1 := hide (hrow.out.below hb1)
      have hnew1 : Hid (∀ (k : Nat) e' g, es[k]? = some e' → e'.has g → g < V.heap.size) := hide (fun k e' g he hg => (hrow.out.in_lt he hg).2.1)
      have hX1s := hb1.size
      clear hrow
      by_cases hnil : LT = []
      · subst hnil
        have hnx : Hid (ls = lps0 sc O P n (a + 1)) := hide (by rw [hlst.out, isH_false hLT.out.symm]; simp)
        have hz : (((([] : List Int).length : Nat) : Int) == 0) = true := rfl
        replace hL := hide hL
        go_wp2
        go_roundw
        case rel => exact ⟨a + 1, A3, C3, ls, es, by go_num, rfl, hlta, hnx, hrow1, hk1⟩
        case measure => simp [intOf]; omega
      · have hisH : isH sc O P a = true := isH_true (by rw [← hLT.out]; exact hnil)
        have hnx : Hid (ls ++ [lp0 sc O P n a] = lps0 sc O P n (a + 1)) := hide (by rw [hlst.out, if_pos hisH])
        have hLl : LT.length ≤ n := by rw [hLT.out]; exact hll.out a hlta
        have hz : ((LT.length : Int) == 0) = false := by
          have := List.length_pos_iff.2 hnil
          rw [beq_eq_false_iff_ne]
          omega
        have cB0 := hide (cBk.out a hlta LT AL CL V.heap.size X1 hk1 hL (by rw [hLT.out]; exact hlo.out a) (by omega))
        obtain ⟨LB, hLB⟩ : ∃ LB, Hid (LB = lpL sc O LT a n) := ⟨_, hide rfl⟩
        rw [← hLB.out] at cB0
        have hL1 := hide (hL.mono (Nat.le_refl _))
        have hLup : Hid (∀ g, (Value.slice AL LT.length CL).ownBlock = some g → g < X1.heap.size) := hide (fun g hg => (row_lt hL.row hg).2.1)
        replace hnil := hide hnil
        replace hisH := hide hisH
        clear hL
        obtain ⟨mL, hmL⟩ : ∃ mL, Hid (LT.length = mL) := ⟨_, hide rfl⟩
        rw [hmL.out] at hLl hz cB0 hL1 hLup ⊢
        go_wp2_with (fail)
        refine (cB0.out).mono ?_
        rintro e X2 ⟨vB, rfl, hBv, hb2⟩
        obtain ⟨AB, CB, rfl⟩ := row_form hBv.row
        have hk2 := hk1.trans (hb2.mono hk1.size)
        have hrow2 := hide (hrow1.out.below hb2)
        have hL2 := hide (hL1.out.kept (w' := X2) fun k _ hk => hb2.block k hk)
        have hB2 := hide (hBv.mono hX1s)
        have hX2s := hb2.size
        have hBlo : Hid (∀ g, (Value.slice AB LB.length CB).ownBlock = some g → X1.heap.size ≤ g ∧ g < X2.heap.size) := hide (fun g hg => ⟨(row_lt hBv.row hg).1, (row_lt hBv.row hg).2.1⟩)
        have cE0 := hide (cEx.out LB AB CB X1.heap.size X2 hk2 hBv (by rw [hLB.out]; exact Nat.le_trans lpL_len (by omega)))
        obtain ⟨LE, hLE⟩ : ∃ LE, Hid (LE = exL sc LB n) := ⟨_, hide rfl⟩
        rw [← hLE.out] at cE0
        obtain ⟨mB, hmB⟩ : ∃ mB, Hid (LB.length = mB) := ⟨_, hide rfl⟩
        rw [hmB.out] at cE0 hB2 hBlo ⊢
        clear hBv hrow1 hL1 cL0 cB0
        have hl0 : Hid (lp0 sc O P n a = ⟨a, LB, LT, LE, 0⟩) := hide (by unfold lp0 bodyS; rw [← hLT.out, ← hLB.out, ← hLE.out])
        have hlsl : ls.length ≤ n := by have := lps0_len (sc := sc) (o := O) (P := P) (n := n) (a := a); rw [hls.out]; omega
        go_wp2_with (first
          | (go_at_call 43; refine (cE0.out).mono ?_; rintro e X3 ⟨vE, rfl, hEv, hb3⟩; obtain ⟨AE, CE, hvE⟩ := row_form hEv.row; subst hvE; have hk3 := hk2.trans (hb3.mono hk2.size); have hrow3 := hide (hrow2.out.below hb3); have hL3 := hide (hL2.out.kept (w' := X3) fun k _ hk => hb3.block k hk); have hB3 := hide (hB2.out.kept (w' := X3) fun k _ hk => hb3.block k hk); have hE3 := hide (hEv.mono (Nat.le_trans hX1s hX2s)); have hk3s := hk3.size; have hElo : Hid (∀ g, (Value.slice AE LE.length CE).ownBlock = some g → X2.heap.size ≤ g) := hide (fun g hg => (row_lt hEv.row hg).1); clear hEv hb3)
          | (at_builtin
             refine wpList_append_own _ rfl (.tmp 27) (.tmp 35) _ rfl W.heap.size 34 m0 _ 5 88 Try.underlying29 hm0.out hm1'.out hm2'.out hm3'.out rfl (by omega) (.slice A3 ls.length C3) _ _ rfl (hrow3.out.row.alloc _) ⟨X3.heap.size, 0, none⟩ 1 1 [.int .i64 a, .slice AB mB CB, .slice AL mL CL, .slice AE LE.length CE, .int .i64 0] rfl rfl ?c1 ?c2 ?c3 ?c4 ?c5 ?_
             case c1 => exact World.news_of_block (cs := #[.int .i64 a, .slice AB mB CB, .slice AL mL CL, .slice AE LE.length CE, .int .i64 0]) (t := 34) (fr := (0, 0)) (heap_alloc_new X3 _)
             case c2 => simp [Value.oneCell']
             case c3 => unfold maxLen; omega
             case c4 => omega
             case c5 => first | (simp; omega) | simp | omega
             intro v1 w1 hown1 hg1 _
             have hbw1 : Below W.heap.size W w1 := (hk3.alloc hk3s _).grown hg1 (by simp; omega) (fun k hk => (row_lt hrow3.out.row hk).1)
             have hO6 := hide (OwnLp.snoc (x := ⟨a, LB, LT, LE, 0⟩) (e := ⟨.slice AB mB CB, .slice AL mL CL, .slice AE LE.length CE⟩) hrow3.out (hB3.out.mono hbs) (hL3.out.mono hbs) (hE3.out.mono hbs) (fun k e' g he hg hn => by
               have h1 := hnew1.out k e' g he hg
               rcases hn with hn | hn | hn
               · have := (row_lt hB3.out.row hn).1; omega
               · have := (row_lt hL3.out.row hn).1; omega
               · have := (row_lt hE3.out.row hn).1; omega) (fun g => ⟨fun h1 => ⟨fun h2 => by have := hLup.out g h2; have := hBlo.out g h1; omega, fun h2 => by have := hElo.out g h2; have := hBlo.out g h1; omega⟩, fun h1 h2 => by have := hLup.out g h1; have := hElo.out g h2; omega⟩) hown1 hg1)
             obtain ⟨A8, C8, hv8⟩ := row_form hO6.out.row
             subst hv8
             replace hown1 := hide hown1
             replace hg1 := hide hg1))
        go_roundw
        case rel => exact ⟨a + 1, A8, C8, ls ++ [⟨a, LB, LT, LE, 0⟩], es ++ [⟨.slice AB mB CB, .slice AL mL CL, .slice AE LE.length CE⟩], by go_num, by simp, hlta, hide (by rw [← hl0.out]; exact hnx.out), hO6, hbw1⟩
        case measure => simp [intOf]; omega
    · obtain rfl : a = n := by omega
      obtain ⟨N, hN⟩ : ∃ N, Hid (N = (headsS sc O P a).length) := ⟨_, hide rfl⟩
      have hNn : N ≤ a := by rw [hN.out]; exact headsS_len
      have hlN : ls.length = N := by rw [hls.out, hN.out]; simp [lps0]
      have hst : Hid (OwnLp V W.heap.size (.slice A3 N C3) (dS sc O P a 0 0) es) := hide (by rw [← dS_start, ← hls.out, ← hlN]; exact hrow.out)
      rw [hlN]
      replace hlN := hide hlN
      have hheads : Hid (∀ (k h : Nat), (headsS sc O P a)[k]? = some h → h < a) := hide (fun k h hk => (headsS_mem.1 (List.mem_of_getElem? hk)).1)
      clear hrow hls
      go_wp2
      go_loopw [7] (fun j wr => ∃ i : Nat, j = .int .i64 i ∧ i ≤ N ∧ Hid (OwnLp wr W.heap.size (.slice A3 N C3) (dS sc O P a i 0) es) ∧ Below W.heap.size W wr) (fun j _ => N - (intOf j).toNat)
      case atStart => exact ⟨0, rfl, Nat.zero_le _, hst, hbel⟩
      case round =>
        clear hst hbel hbs V
        rename World => V
        obtain ⟨i, rfl, hi, hrow, hbel⟩ := hrel
        by_cases hlti : i < N
        · have hii : (i : Int) < (N : Int) := by omega
          obtain ⟨h, hh⟩ := get_ex (l := headsS sc O P a) (k := i) (by rw [← hN.out]; exact hlti)
          have hha := hheads.out i h hh.out
          have hst : Hid (OwnLp V W.heap.size (.slice A3 N C3) (dS sc O P a i (cntS sc O P a h 0)) es) := hide (by rw [cntS_zero]; exact hrow.out)
          go_wp2
          go_loopw [8] (fun j wr => ∃ c : Nat, j = .int .i64 c ∧ c ≤ N ∧ Hid (OwnLp wr W.heap.size (.slice A3 N C3) (dS sc O P a i (cntS sc O P a h c)) es) ∧ Below W.heap.size W wr) (fun j _ => N - (intOf j).toNat)
          case atStart => exact ⟨0, rfl, Nat.zero_le _, hst, hbel⟩
          case round =>
            clear hst hrow hbel V
            rename World => V
            obtain ⟨c, rfl, hc, hrow, hbel⟩ := hrel
            have hbs := hbel.size
            by_cases hltc : c < N
            · have hci : (c : Int) < (N : Int) := by omega
              obtain ⟨q, hq⟩ := get_ex (l := headsS sc O P a) (k := c) (by rw [← hN.out]; exact hltc)
              have hqa := hheads.out c q hq.out
              obtain ⟨d, hd⟩ : ∃ d, Hid (cntS sc O P a h c = d) := ⟨_, hide rfl⟩
              have hstep := cntS_step (sc := sc) (o := O) (P := P) (n := a) (h := h) hq.out
              have hdn : d ≤ a := by rw [← hd.out]; exact cntS_le
              rw [hd.out] at hrow hstep
              have x1 := dS_at (i := i) (d := d) hq.out
              have x2 := dS_here (d := d) hh.out
              obtain ⟨e1, he1⟩ := hrow.out.at_ x1
              obtain ⟨e2, he2⟩ := hrow.out.at_ x2
              have hin1 := (hrow.out.inn c _ e1 x1 he1).1
              obtain ⟨AB, CB, hvB⟩ := row_form hin1.row
              have hlen : (dS sc O P a i d).length = N := by rw [dS_len, hN.out]
              obtain ⟨gA, hgA⟩ : ∃ gA, A3 = some ⟨gA, 0, none⟩ := by
                have hr := hrow.out.row
                rw [hlen] at hr
                obtain ⟨g, cap, hv, -, -⟩ := hr.form (by omega)
                cases hv
                exact ⟨g, rfl⟩
              subst hgA
              have hbody : Hid ((lp0 sc O P a q).blocks = bodyS sc O P a q) := hide rfl
              have r1 : ∀ w', Below V.heap.size V w' → w'.cell? ⟨gA, c * 5 + 1, none⟩ = some (.slice AB (bodyS sc O P a q).length CB) := fun w' hb => by
                rw [((hrow.out.below hb).cells x1 he1).2.1, hvB]
                rfl
              have r2 : ∀ w', Below V.heap.size V w' → w'.cell? ⟨gA, i * 5, none⟩ = some (.int .i64 (h : Int)) := fun w' hb => ((hrow.out.below hb).cells x2 he2).1
              have hselfV := Below.refl V.heap.size V
              obtain ⟨b9, hb9⟩ : ∃ b9, Hid (lpB sc O (latF sc O P q) q h = b9) := ⟨_, hide rfl⟩
              have hdb : decide ((h : Int) ∈ bodyS sc O P a q) = b9 := by
                rw [← hb9.out, Bool.eq_iff_iff, decide_eq_true_iff, lpB_iff]
                unfold bodyS
                rw [lpL_mem]
                exact ⟨fun h => h.2.2, fun h' => ⟨by omega, by omega, h'⟩⟩
              have cH := hide (has13_any AB CB (bodyS sc O P a q) (h : Int) V.drew W.heap.size (by have := lpL_len (sc := sc) (o := O) (lat := latF sc O P q) (h := (q : Int)) (n := a); unfold bodyS; omega) (by have := hin1.below (hselfV.drew); rw [hvB] at this; exact this))
              rw [hdb] at cH
              rw [hb9.out] at hstep
              replace hdb := hide hdb
              replace hin1 := hide hin1
              replace hvB := hide hvB
              replace x1 := hide x1
              replace x2 := hide x2
              replace he1 := hide he1
              replace he2 := hide he2
              replace hstep := hide hstep
              replace hlen := hide hlen
              obtain ⟨mB, hmB⟩ : ∃ mB, Hid ((bodyS sc O P a q).length = mB) := ⟨_, hide rfl⟩
              rw [hmB.out] at r1 cH
              go_upto_region 15 with (fail)
              go_region_held3 (fun w' => Below V.heap.size V w') (first | (with_reducible assumption) | exact hselfV.drew)
                (first
                  | (go_at_call 23; refine cH.out.mono ?_; rintro e Y ⟨rfl, hY⟩; have hkY : Below V.heap.size V Y := hY ▸ hselfV.drew; clear hY))
              have hrowY := hide (hrow.out.below hkY)
              have hbelY := hbel.trans (hkY.mono hbs)
              clear hrow hkY hselfV r1 r2 cH
              cases b9 with
              | false =>
                have hnx : Hid (OwnLp Y W.heap.size (.slice (some ⟨gA, 0, none⟩) N C3) (dS sc O P a i (cntS sc O P a h (c + 1))) es) := hide (by rw [hstep.out]; simpa using hrowY.out)
                go_wp2
                go_roundw
                case rel => exact ⟨c + 1, by go_num, hltc, hnx, hbelY⟩
                case measure => simp [intOf]; omega
              | true =>
                obtain ⟨-, -, -, -, r4⟩ := hrowY.out.cells x2.out he2.out
                have f4 : Y.frozen? ⟨gA, i * 5 + 4, none⟩ = false := by
                  have h := hrowY.out.row
                  rw [hlen.out] at h
                  exact World.ownsRow.frozenAt h _
                have hst9 : Hid (OwnLp (Y.setCell ⟨gA, i * 5 + 4, none⟩ (.int .i64 ((d + 1 : Nat) : Int))) W.heap.size (.slice (some ⟨gA, 0, none⟩) N C3) (dS sc O P a i (cntS sc O P a h (c + 1))) es) := hide (by
                  have := hrowY.out
                  rw [← hlen.out] at this
                  have := this.put x2.out (d + 1)
                  rw [dS_set hh.out, hlen.out] at this
                  rw [hstep.out]
                  exact this)
                have hbw := hide (hbelY.setCell (p := ⟨gA, i * 5 + 4, none⟩) (row_lt hrowY.out.row (k := gA) rfl).1 (.int .i64 ((d + 1 : Nat) : Int)))
                have hsum : IntKind.i64.wrap ((d : Int) + 1) = ((d + 1 : Nat) : Int) := by rw [IntKind.wrap_i64]; omega
                have r4' : Y.cell? ⟨gA, i * 5 + 4, none⟩ = some (.int .i64 (d : Int)) := r4
                clear r4
                go_wp2
                go_roundw
                case rel => exact ⟨c + 1, by go_num, hltc, hst9, hbw.out⟩
                case measure => simp [intOf]; omega
            · obtain rfl : c = N := by omega
              have hnx : Hid (OwnLp V W.heap.size (.slice A3 c C3) (dS sc O P a (i + 1) 0) es) := hide (by rw [← dS_next hh.out, ← cntS_end, ← hN.out]; exact hrow.out)
              go_wp2
              go_roundw
              case rel => exact ⟨i + 1, by go_num, hlti, hnx, hbel⟩
              case measure => simp [intOf]; omega
        · obtain rfl : i = N := by omega
          have hfin : Hid (OwnLp V w.heap.size (.slice A3 i C3) (loopsS sc O P a) es) := hide (by rw [← dS_end, ← hN.out]; exact hrow.out.mono hws)
          have hw := hide (hwX.out V hbel)
          go_wp2
          go_ret
          exact ⟨_, es, rfl, hfin.out, hw.out⟩
end Go.Proofs.Ytidjaohlaljmpaa
