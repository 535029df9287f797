/- latheref19.Ends. No condition but sizes. -/
import Derived.Test.YteeclobpajalmaaMsV
namespace Go.Proofs.Yteeclobpajalmaa
open Go.RowKit
set_option linter.unusedSimpArgs false
set_option linter.unusedVariables false

theorem bare_rd {w : World} {B C go : Nat} {L : List Ac} (h : BareA w B (some ⟨go, 0, none⟩) C L) : RdA w go L :=
  ⟨(row_lt (OwnAc.row h) (k := go) rfl).2.1, fun i a ha => by
    obtain ⟨e, he⟩ := OwnAc.at_ h ha
    obtain ⟨h1, h2, h3, -⟩ := OwnAc.cells h ha he
    exact ⟨h1, h2, h3⟩⟩
theorem bare_form {w : World} {B C : Nat} {A : Option Addr} {L : List Ac} (h : BareA w B A C L) (hL : 0 < L.length) : ∃ go, A = some ⟨go, 0, none⟩ := by
  obtain ⟨g, cap, hv, -, -⟩ := (OwnAc.row h).form hL
  simp only [Value.slice.injEq] at hv
  exact ⟨g, hv.1⟩
theorem own_in {w : World} {B g n : Nat} {l : List Int} (h : OwnN w B g n l) (ok : ∀ x, x ∈ l → I64 x) : OwnI w B (.slice (some ⟨g, 0, none⟩) n n) l := by
  have e := h.len
  subst e
  exact ⟨h, ok⟩
theorem stands_end {f : Fun} {H : Nat → Bool} {O : List Int} {n b : Nat} {L : List Ac} (hL : L = laidA f.blocks H O n) {x : List Ins} (hx : f.blocks[b]? = some x) : bestF L b x.length L.length = lastD L b L.length := by
  have h := best_last (L := L) (b := b) (p := x.length) (c := L.length) (fun i a ha hi hu => ⟨fun _ => (List.getElem?_eq_some_iff.1 ha).1, fun _ => by
    rw [hL] at ha
    have := laidA_pos_lt ha hi hu
    rw [List.getD_eq_getElem?_getD, hx] at this
    exact this⟩) L.length
  rwa [Nat.min_self] at h
def REndsPost (L : List Ac) (l O : List Int) (n : Nat) (w : World) (e : Ending) (w' : World) : Prop :=
  ∃ v, e = .returned v ∧ OwnI w' w.heap.size v (endsL L l O n) ∧ Below w.heap.size w w'
theorem endsL_len {L : List Ac} {l o : List Int} {n : Nat} : (endsL L l o n).length = n := by simp [endsL]
theorem endsL_step {L : List Ac} {l o : List Int} {n : Nat} : endsL L l o (n + 1) = endsL L l o n ++ [if (n : Int) ∈ o then endF L l o n else -1] := by
  unfold endsL
  rw [List.range_succ, List.map_append]
  rfl
set_option maxRecDepth 100000 in
set_option maxHeartbeats 12800000 in
theorem rmends_any (f : Fun) (c1 c2 : Value) (w : World) (B : Nat) (hB : B ≤ w.heap.size) (hf : RFun.rep w B [.string f.name, c1, .int .i64 f.ret, c2] f) (hsz : funSz f ≤ 2000000) (l : List Int) (hl : l = idomL (fun a b => domB (succsF f.blocks) (orderF f.blocks) a b) f.blocks.length) (hI : 0 < f.blocks.length → IdomOk (succsF f.blocks) (orderF f.blocks) f.blocks.length l) :
    Calls Try.prog 16 #[f.v c1 c2] w (REndsPost (laidA f.blocks (phF f) (orderF f.blocks) f.blocks.length) l (orderF f.blocks) f.blocks.length w) := by
  have hs : Small f := small_of hsz
  unfold phF
  obtain ⟨hp, hb⟩ := fun_open (RFun.later hf (Below.refl _ _) hB)
  obtain ⟨A1, k1, h1, -, -⟩ := Rp.slice1_open hp
  obtain ⟨A2, k2, h2, hm2, -⟩ := Rp.slice1_open hb
  cases h1; cases h2
  clear hb
  obtain ⟨-, hb⟩ := fun_open (RFun.later hf (Below.refl _ _) hB)
  obtain ⟨A2', k2', h2', -, gb⟩ := Rp.slice1_open hb
  cases h2'
  clear hp hb
  replace gb := hide gb
  obtain ⟨n, hn⟩ : ∃ n, Hid (n = f.blocks.length) := ⟨_, hide rfl⟩
  have hnle : n ≤ 2000000 := by rw [hn.out]; exact hs.blocks
  obtain ⟨O, hO⟩ : ∃ O, Hid (O = orderF f.blocks) := ⟨_, hide rfl⟩
  obtain ⟨sc, hsc⟩ : ∃ sc, Hid (sc = succsF f.blocks) := ⟨_, hide rfl⟩
  obtain ⟨R, hR⟩ : ∃ R, Hid (R = reachF f.blocks) := ⟨_, hide rfl⟩
  obtain ⟨P, hP⟩ : ∃ P, Hid (P = predsL sc n) := ⟨_, hide rfl⟩
  have hPl : P.length = n := by rw [hP.out, predsL_len]
  have hRl : R.length = n := by rw [hR.out, hn.out, reach_len]
  have hsok : Hid (∀ b, SuccOk n (sc b)) := hide (fun b => by rw [hsc.out, hn.out]; exact succsF_ok _ _)
  have hok : Hid (OrderOk n sc O) := hide (by rw [hO.out, hn.out, hsc.out]; exact order_ok _)
  have hol : O.length ≤ n := by rw [hO.out, hn.out]; exact order_len _
  have hRat : Hid (∀ k : Nat, k < n → R[k]? = some (decide ((k : Int) ∈ O))) := hide (fun k hk => by rw [hR.out, hO.out]; exact reach_at _ _ (by rw [← hn.out]; exact hk))
  rw [← hn.out, ← hO.out, ← hsc.out]
  rw [← hn.out] at hf hm2 hl hI
  obtain ⟨W, hW, hwW, hWs, hx⟩ := boxes1 w #[.string f.name, .slice A1 f.params.length k1, .int .i64 f.ret, .slice A2 n k2] 25
  have q0 : ∀ w', Below W.heap.size W w' → w'.cell? ⟨w.heap.size, 0, none⟩ = some (.string f.name) := hx 0 _ rfl
  have q1 : ∀ w', Below W.heap.size W w' → w'.cell? ⟨w.heap.size, 1, none⟩ = some (.slice A1 f.params.length k1) := hx 1 _ rfl
  have q2 : ∀ w', Below W.heap.size W w' → w'.cell? ⟨w.heap.size, 2, none⟩ = some (.int .i64 f.ret) := hx 2 _ rfl
  have q3 : ∀ w', Below W.heap.size W w' → w'.cell? ⟨w.heap.size, 3, none⟩ = some (.slice A2 n k2) := hx 3 _ rfl
  clear hx
  have hws : w.heap.size ≤ W.heap.size := by omega
  replace hWs := hide hWs
  have hself := Below.refl W.heap.size W
  have hF : Hid (∀ w', Below W.heap.size W w' → RFun.rep w' w'.heap.size [.string f.name, .slice A1 f.params.length k1, .int .i64 f.ret, .slice A2 n k2] f) := hide (fun w' h => RFun.later hf ((hwW.trans (h.mono hws)).mono hB) (Nat.le_trans hB (hwW.trans (h.mono hws)).size))
  have cRR : Hid (∀ w', Below W.heap.size W w' → Calls Try.prog 40 #[f.v (.slice A1 f.params.length k1) (.slice A2 n k2)] w' (ReachPost n R w')) := hide (fun w' h => by
    have := rreach_any f (.slice A1 f.params.length k1) (.slice A2 n k2) w' w'.heap.size (Nat.le_refl _) (hF.out w' h) hs
    rwa [← hn.out, ← hR.out] at this)
  have hsm := hide hs
  have cLy : Hid (∀ w', Below W.heap.size W w' → Calls Try.prog 37 #[f.v (.slice A1 f.params.length k1) (.slice A2 n k2)] w' (RLayPost f (phiB (startB f.blocks O) (frB sc O)) O n w')) := hide (fun w' h => by
    have := rlay_any f (.slice A1 f.params.length k1) (.slice A2 n k2) w' w'.heap.size (Nat.le_refl _) (hF.out w' h) hsz
    rwa [← hn.out, ← hO.out, ← hsc.out] at this)
  have cId : Hid (∀ w', Below W.heap.size W w' → Calls Try.prog 38 #[f.v (.slice A1 f.params.length k1) (.slice A2 n k2)] w' (RIdomPost sc O n w')) := hide (fun w' h => by
    have := ridom_any f (.slice A1 f.params.length k1) (.slice A2 n k2) w' w'.heap.size (Nat.le_refl _) (hF.out w' h) hs
    rwa [← hn.out, ← hO.out, ← hsc.out] at this)
  have hzb : Hid (∀ x, x ∈ f.blocks → x.length ≤ 2000000) := hide (fun x hx => (hs.code x hx).1)
  replace hs := hide hs
  replace hf := hide hf
  replace hwW := hide hwW
  rw [← hsc.out, ← hO.out] at hl hI
  obtain ⟨H, hH⟩ : ∃ H, Hid (H = phiB (startB f.blocks O) (frB sc O)) := ⟨_, hide rfl⟩
  rw [← hH.out] at cLy ⊢
  obtain ⟨i0, hi0, hz0, hz1, hz2⟩ := cinfo_parts cinfo_int
  replace hi0 := hide hi0
  replace hz0 := hide hz0
  replace hz1 := hide hz1
  replace hz2 := hide hz2
  obtain ⟨L, hL⟩ : ∃ L, Hid (L = laidA f.blocks H O n) := ⟨_, hide rfl⟩
  have hLm : L.length ≤ 4000001 := by rw [hL.out]; exact laidA_small hsz (by rw [hn.out]; exact Nat.le_refl _)
  have hLp : Hid (0 < L.length) := hide (by rw [hL.out]; exact laidA_pos n)
  unfold RLayPost at cLy
  rw [← hL.out] at cLy ⊢
  obtain ⟨LL, hLL⟩ : ∃ LL, Hid (LL = if n = 0 then [] else L) := ⟨_, hide rfl⟩
  rw [← hLL.out] at cLy
  replace hl := hide hl
  replace hI := hide hI
  replace hW := hide hW
  go_enter Try.func16, Try.ntmps16
  go_upto_region 1 with (fail)
  rw [hW.out]
  clear hW
  go_wp2_with (fail)
  refine (cLy.out _ hself).mono ?_
  rintro e X1 ⟨AL, CL, rfl, hLb, hb1⟩
  go_wp2_with (fail)
  refine (cId.out _ hb1).mono ?_
  rintro e X2 ⟨gi, rfl, hU, hb2⟩
  have hk2 := hb1.trans (hb2.mono hb1.size)
  go_wp2_with (fail)
  refine (cRR.out _ hk2).mono ?_
  rintro e X3 ⟨gr, rfl, hrr, hb3⟩
  have hk3 := hk2.trans (hb3.mono hk2.size)
  have hs3 := hk3.size
  have hrd : Hid (∀ k : Nat, k < n → ∀ w', Below X3.heap.size X3 w' → w'.cell? ⟨gr, k, none⟩ = some (.bool (decide ((k : Int) ∈ O)))) := hide (fun k hk w' h => OwnB.cell (row_kept hrr fun q hq => h.block q (row_lt hrr hq).2.1) (hRat.out k hk) hk)
  have hlI : Hid (∀ x, x ∈ l → I64 x) := hide (fun x hx => by
    have hx2 := hx
    rw [hl.out] at hx2
    have := idomL_bound hx2
    exact i64_mk (by omega) (by omega))
  have hU3 : Hid (OwnI X3 X1.heap.size (.slice (some ⟨gi, 0, none⟩) n n) l) := hide ((own_in (by rw [hl.out]; exact hU) hlI.out).kept fun q _ hq => hb3.block q hq)
  have hln : Hid (0 < n → l.length = n) := hide (fun h => (hI.out h).len)
  have hLb3 : Hid (BareA X3 W.heap.size AL CL LL) := hide ((OwnAc.below hLb (hb2.trans (hb3.mono hb2.size))))
  have hcS : Hid (∀ w', Below X3.heap.size X3 w' → ∀ (b : Nat) (p : Int), (b : Int) ∈ O → b < n → Calls Try.prog 41 #[f.v (.slice A1 f.params.length k1) (.slice A2 n k2), .slice (some ⟨gi, 0, none⟩) n n, .slice AL LL.length CL, .int .i64 b, .int .i64 p] w' (StandsPost (stF L l O b (bestF L b p L.length)) w')) := hide (fun w' h b p hb hbn => by
    have hn0 : ¬ n = 0 := by omega
    have e : LL = L := by rw [hLL.out, if_neg hn0]
    have hLw := OwnAc.below hLb3.out h
    rw [e] at hLw ⊢
    obtain ⟨go, rfl⟩ := bare_form hLw hLp.out
    have hI1 := hI.out (by omega)
    have := rstands_any f (.slice A1 f.params.length k1) (.slice A2 n k2) w' w'.heap.size (Nat.le_refl _) (hF.out w' (hk3.trans (h.mono hs3))) hsm.out H L (by rw [hL.out, hO.out, hn.out]) hLm l (by rw [← hsc.out, ← hO.out, ← hn.out]; exact hI1) go CL X1.heap.size (.slice (some ⟨gi, 0, none⟩) n n) (hU3.out.kept fun q _ hq => h.block q hq) (bare_rd hLw) b p (by rw [← hO.out]; exact hb)
    rwa [← hO.out] at this)
  have hend : Hid (∀ (b : Nat) x, (b : Int) ∈ O → b < n → f.blocks[b]? = some x → stF L l O b (bestF L b x.length L.length) = endF L l O b) := hide (fun b x hb hbn hx => by
    have hI1 := hI.out (by omega)
    rw [endF_eq hI1 hok.out hb, stands_end hL.out hx])
  have hendb : Hid (∀ b : Nat, (b : Int) ∈ O → b < n → 0 ≤ endF L l O b ∧ endF L l O b < L.length) := hide (fun b hb hbn => endF_bound (hI.out (by omega)) hok.out hLp.out hb)
  have hwX : Hid (∀ w', Below X3.heap.size X3 w' → Below w.heap.size w w') := hide (fun w' h => hwW.out.trans ((hk3.trans (h.mono hs3)).mono hws))
  have hwXs : Hid (w.heap.size ≤ X3.heap.size) := hide (Nat.le_trans hws hs3)
  have z0 : ∀ w', Below X3.heap.size X3 w' → w'.cell? ⟨w.heap.size, 0, none⟩ = some (.string f.name) := fun w' h => q0 w' (hk3.trans (h.mono hs3))
  have z1 : ∀ w', Below X3.heap.size X3 w' → w'.cell? ⟨w.heap.size, 1, none⟩ = some (.slice A1 f.params.length k1) := fun w' h => q1 w' (hk3.trans (h.mono hs3))
  have z2 : ∀ w', Below X3.heap.size X3 w' → w'.cell? ⟨w.heap.size, 2, none⟩ = some (.int .i64 f.ret) := fun w' h => q2 w' (hk3.trans (h.mono hs3))
  have z3 : ∀ w', Below X3.heap.size X3 w' → w'.cell? ⟨w.heap.size, 3, none⟩ = some (.slice A2 n k2) := fun w' h => q3 w' (hk3.trans (h.mono hs3))
  have hself3 := Below.refl X3.heap.size X3
  have hnil : Hid (OwnI X3 X3.heap.size (.slice none 0 0) (endsL L l O 0)) := hide OwnI.nil_
  clear hLb hU hb1 hb2 hb3 hk2 hk3 hs3 hrr cLy cId cRR q0 q1 q2 q3 hself hF
  go_wp2
  go_loopw [6, 7] (fun s6 s7 wr => ∃ (b : Nat) (A : Option Addr) (C : Nat), s6 = .slice A b C ∧ s7 = .int .i64 b ∧ b ≤ n ∧ Hid (OwnI wr X3.heap.size (.slice A b C) (endsL L l O b)) ∧ Below X3.heap.size X3 wr) (fun _ s7 _ => n - (intOf s7).toNat)
  case atStart => exact ⟨0, none, 0, rfl, rfl, Nat.zero_le _, hnil, hself3⟩
  case round =>
    clear hnil hself3
    rename World => V
    obtain ⟨b, A, C, rfl, rfl, hb9, hrow, hbel⟩ := hrel
    have hVs := hbel.size
    by_cases hlt : b < n
    · have hki : (b : Int) < (n : Int) := by omega
      have r1 := hrd.out b hlt V hbel
      have hstep := endsL_step (L := L) (l := l) (o := O) (n := b)
      have hel : Hid ((endsL L l O b).length = b) := hide endsL_len
      have z3V := z3 V hbel
      by_cases hbO : (b : Int) ∈ O
      · rw [decide_eq_true hbO] at r1
        rw [if_pos hbO] at hstep
        obtain ⟨x, hx⟩ := get_ex (l := f.blocks) (k := b) (by rw [← hn.out]; exact hlt)
        have hxl : x.length ≤ 2000000 := hzb.out x (List.mem_of_getElem? hx.out)
        obtain ⟨b1, o1, hA2, he1⟩ := gb.out (by rw [← hn.out]; omega)
        subst hA2
        obtain ⟨d1, hr1, hd1⟩ := he1 b x hx.out
        obtain ⟨A3, c3, h3, hm3', ga3⟩ := Rp.slice_open hr1
        cases h3
        have hd1' : ∀ w', Below V.heap.size V w' → w'.cell? ⟨b1, o1 + b, none⟩ = some (.slice A3 x.length c3) := fun w' h => hd1 w' (hwX.out w' (hbel.trans (h.mono hVs)))
        have y0 : ∀ w', Below V.heap.size V w' → w'.cell? ⟨w.heap.size, 0, none⟩ = some (.string f.name) := fun w' h => z0 w' (hbel.trans (h.mono hVs))
        have y1 : ∀ w', Below V.heap.size V w' → w'.cell? ⟨w.heap.size, 1, none⟩ = some (.slice A1 f.params.length k1) := fun w' h => z1 w' (hbel.trans (h.mono hVs))
        have y2 : ∀ w', Below V.heap.size V w' → w'.cell? ⟨w.heap.size, 2, none⟩ = some (.int .i64 f.ret) := fun w' h => z2 w' (hbel.trans (h.mono hVs))
        have y3 : ∀ w', Below V.heap.size V w' → w'.cell? ⟨w.heap.size, 3, none⟩ = some (.slice (some ⟨b1, o1, none⟩) n k2) := fun w' h => z3 w' (hbel.trans (h.mono hVs))
        obtain ⟨hy1, hy2⟩ := hendb.out b hbO hlt
        obtain ⟨z, hz⟩ : ∃ z, Hid (z = endF L l O b) := ⟨_, hide rfl⟩
        rw [← hz.out] at hy1 hy2 hstep
        have cS : Hid (∀ w', Below V.heap.size V w' → Calls Try.prog 41 #[f.v (.slice A1 f.params.length k1) (.slice (some ⟨b1, o1, none⟩) n k2), .slice (some ⟨gi, 0, none⟩) n n, .slice AL LL.length CL, .int .i64 b, .int .i64 x.length] w' (StandsPost z w')) := hide (fun w' h => by
          have := hcS.out w' (hbel.trans (h.mono hVs)) b x.length hbO hlt
          rwa [hend.out b x hbO hlt hx.out, ← hz.out] at this)
        have hzI : Hid (I64 z) := hide (i64_mk (by omega) (by omega))
        have hrow2 : Hid (V.ownsRow X3.heap.size 3 1 (.slice A b C) b ((endsL L l O b).map fun z => Value.int .i64 z)) := hide (by have := hrow.out.row; rwa [hel.out] at this)
        have hselfV := Below.refl V.heap.size V
        obtain ⟨NL, hNL⟩ : ∃ NL, Hid (NL = LL.length) := ⟨_, hide rfl⟩
        rw [← hNL.out] at cS ⊢
        replace hstep := hide hstep
        replace hbO := hide hbO
        clear hd1 hr1 he1 ga3 z0 z1 z2 z3 z3V
        go_upto_region 9 with (fail)
        go_region_law (first
          | ((try go_simp)
             go_at_call 41
             refine (cS.out _ (by first | with_reducible assumption | exact hselfV.drew)).mono ?_
             rintro e V5 ⟨rfl, hb5⟩
             have hb5V : Below V.heap.size V V5 := hselfV.drew.trans hb5
             have hb5' : Below X3.heap.size X3 V5 := hbel.trans (hb5V.mono hVs)
             have hown5 := hide (row_kept hrow2.out (w' := V5) fun i hi => hb5V.block i (row_lt hrow2.out hi).2.1)
             have hs5 := hb5'.size
             clear hb5)
          | (refine step_append_lies _ (by rfl) (.tmp 25) (.tmp 38) 22 (by rfl) X3.heap.size 3 i0 (.int .i64 0) 1 8 Try.underlying22 hi0.out hz0.out hz1.out hz2.out (by rfl) (by omega) (.slice A b C) b _ (by rfl) (by exact hown5.out.alloc _) ⟨V5.heap.size, 0, none⟩ 1 1 [.int .i64 z] (by rfl) (by rfl) ?c1 ?c2 (by omega) ?c3 ?c4 ?c5 (V5.heap.size + 1) ?c6 ?_
             case c1 => exact World.news_of_block (cs := #[.int .i64 z]) (t := 3) (fr := (0, 0)) (by exact heap_alloc_new V5 _)
             case c2 => simp [Value.oneCell']
             case c3 => unfold maxLen; omega
             case c4 => omega
             case c5 => first | (simp; omega) | simp | omega
             case c6 => simp
             intro gq cq w1 hown1 hg1 hgq hlt1
             have hbw1 : Below X3.heap.size X3 w1 := (hb5'.alloc hs5 _).grown hg1 (by simp; omega) (fun k hk => (row_lt hown5.out hk).1)
             have hL9 := hide (OwnI.snoc (B := X3.heap.size) (w' := w1) (v' := .slice (some ⟨gq, 0, none⟩) (b + 1) cq) hrow.out.ok hzI.out (by rw [hel.out]; exact hown1))
             replace hown1 := hide hown1
             replace hg1 := hide hg1
             replace hgq := hide hgq
             replace hlt1 := hide hlt1))
        all_goals
          go_wp2
          go_roundw
          case rel => exact ⟨b + 1, _, _, rfl, by go_num, hlt, by rw [hstep.out]; exact hL9, hbw1⟩
          case measure => simp [intOf]; omega
      · rw [decide_eq_false hbO] at r1
        rw [if_neg hbO] at hstep
        have hzI : Hid (I64 (-1)) := hide (i64_mk (by omega) (by omega))
        have hrow2 : Hid (V.ownsRow X3.heap.size 3 1 (.slice A b C) b ((endsL L l O b).map fun z => Value.int .i64 z)) := hide (by have := hrow.out.row; rwa [hel.out] at this)
        replace hstep := hide hstep
        replace hbO := hide hbO
        go_wp2_with (first
          | (at_builtin
             refine wpList_append_own _ rfl (.tmp 40) (.tmp 41) _ rfl X3.heap.size 3 i0 _ 1 8 Try.underlying22 hi0.out hz0.out hz1.out hz2.out rfl (by omega) (.slice A b C) _ _ rfl (hrow2.out.alloc _) ⟨V.heap.size, 0, none⟩ 1 1 [.int .i64 (-1)] rfl rfl ?c1 ?c2 ?c3 ?c4 ?c5 ?_
             case c1 => exact World.news_of_block (cs := #[.int .i64 (-1)]) (t := 3) (fr := (0, 0)) (heap_alloc_new V _)
             case c2 => simp [Value.oneCell']
             case c3 => unfold maxLen; omega
             case c4 => omega
             case c5 => first | (simp; omega) | simp | omega
             intro v1 w1 hown1 hg1 _
             have hbw1 : Below X3.heap.size X3 w1 := (hbel.alloc hVs _).grown hg1 (by simp; omega) (fun k hk => (row_lt hrow2.out hk).1)
             obtain ⟨A8, C8, hv8⟩ := row_form hown1
             subst hv8
             have hL9 := hide (OwnI.snoc (B := X3.heap.size) (w' := w1) (v' := .slice A8 (b + 1) C8) hrow.out.ok hzI.out (by rw [hel.out]; exact hown1))
             replace hown1 := hide hown1
             replace hg1 := hide hg1))
        go_roundw
        case rel => exact ⟨b + 1, A8, C8, rfl, by go_num, hlt, by rw [hstep.out]; exact hL9, hbw1⟩
        case measure => simp [intOf]; omega
    · obtain rfl : b = n := by omega
      have hfin : Hid (REndsPost L l O b w (.returned (.slice A b C)) V) := hide ⟨_, rfl, hrow.out.mono hwXs.out, hwX.out V hbel⟩
      go_wp2
      go_ret
      exact hfin.out
end Go.Proofs.Yteeclobpajalmaa
