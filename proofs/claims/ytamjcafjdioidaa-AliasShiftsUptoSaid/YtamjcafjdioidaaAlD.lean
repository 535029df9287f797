/- alias.Escapes. No condition but sizes. -/
import Derived.Test.YtamjcafjdioidaaAlC
import Derived.Test.YtamjcafjdioidaaGrNf
namespace Go.Proofs.Ytamjcafjdioidaa
open Go.RowKit
set_option linter.unusedSimpArgs false
set_option linter.unusedVariables false

def stepB (q : Int → Bool) (ins : Ins) : Bool := decide (ins.op = 29) && (match ins.args with | [] => false | a :: _ => decide (a.kind = 1) && q a.num)
def cntQ (q : Int → Bool) (l : List Ins) : Nat := (l.filter fun i => !q i.reg).length
structure PassInv (bs : List (List Ins)) (reg : Int) (q0 q : Int → Bool) (tb : Bool) (i j : Nat) : Prop where
  self : q reg = true
  sound : ∀ r, q r = true → Kin bs.flatten reg r
  le : cntQ q bs.flatten ≤ cntQ q0 bs.flatten
  turned : tb = true → cntQ q bs.flatten < cntQ q0 bs.flatten
  still : tb = false → ∀ ins, ins ∈ before bs i j → stepB q ins = true → q ins.reg = true
theorem cnt_le {q q' : Int → Bool} (h : ∀ r, q r = true → q' r = true) : ∀ l : List Ins, cntQ q' l ≤ cntQ q l
  | [] => Nat.le_refl _
  | x :: l => by
    have ih := cnt_le h l
    unfold cntQ at *
    rw [List.filter_cons, List.filter_cons]
    cases e : q x.reg with
    | true => rw [h _ e]; simpa using ih
    | false =>
      cases e' : q' x.reg with
      | true => simp; omega
      | false => simp; omega
theorem cnt_lt {q q' : Int → Bool} (h : ∀ r, q r = true → q' r = true) {x : Ins} (h1 : q x.reg = false) (h2 : q' x.reg = true) : ∀ l : List Ins, x ∈ l → cntQ q' l < cntQ q l
  | y :: l, hx => by
    rcases List.mem_cons.1 hx with rfl | hx
    · have := cnt_le h l
      unfold cntQ at *
      rw [List.filter_cons, List.filter_cons, h1, h2]
      simp; omega
    · have ih := cnt_lt h h1 h2 l hx
      unfold cntQ at *
      rw [List.filter_cons, List.filter_cons]
      cases e : q y.reg with
      | true => rw [h _ e]; simpa using ih
      | false =>
        cases e' : q' y.reg with
        | true => simp; omega
        | false => simp; omega
section
variable {bs : List (List Ins)} {reg : Int} {q0 q : Int → Bool} {tb : Bool} {i j : Nat} {x : List Ins} {ins : Ins}
theorem pass_start (h : q reg = true) (hs : ∀ r, q r = true → Kin bs.flatten reg r) : PassInv bs reg q q false 0 0 :=
  ⟨h, hs, Nat.le_refl _, (fun h => by cases h), fun _ ins hi => by rw [before_zero] at hi; cases hi⟩
theorem pass_skip (h : PassInv bs reg q0 q tb i j) (hx : bs[i]? = some x) (hi : x[j]? = some ins) (hn : stepB q ins = true → q ins.reg = true) : PassInv bs reg q0 q tb i (j + 1) :=
  ⟨h.self, h.sound, h.le, h.turned, fun ht y hy => by
    rw [before_step hx hi] at hy
    rcases List.mem_append.1 hy with hy | hy
    · exact h.still ht y hy
    · rw [List.mem_singleton.1 hy]; exact hn⟩
theorem pass_mark (h : PassInv bs reg q0 q tb i j) (hx : bs[i]? = some x) (hi : x[j]? = some ins) {a : Opd} {rest : List Opd} (h1 : ins.op = 29) (h2 : ins.args = a :: rest) (h3 : a.kind = 1) (h4 : q a.num = true) (h5 : q ins.reg = false) : PassInv bs reg q0 (fun r => q r || ins.reg == r) true i (j + 1) ∧ cntQ (fun r => q r || ins.reg == r) bs.flatten < cntQ q bs.flatten := by
  have hlt := cnt_lt (q := q) (q' := fun r => q r || ins.reg == r) (fun r hr => by simp [hr]) h5 (by simp) bs.flatten (before_mem hx hi)
  refine ⟨⟨by simp [h.self], fun r hr => ?_, by have := h.le; omega, fun _ => by have := h.le; omega, fun h => by cases h⟩, hlt⟩
  rcases Bool.or_eq_true_iff.1 hr with hr | hr
  · exact h.sound r hr
  · rw [← beq_iff_eq.1 hr]
    exact .step (before_mem hx hi) h1 h2 h3 (h.sound _ h4)
theorem pass_block (h : PassInv bs reg q0 q tb i x.length) (hx : bs[i]? = some x) : PassInv bs reg q0 q tb (i + 1) 0 :=
  ⟨h.self, h.sound, h.le, h.turned, fun ht y hy => by rw [← before_next hx] at hy; exact h.still ht y hy⟩
theorem pass_end (h : PassInv bs reg q0 q false bs.length 0) : ∀ r, q r = true ↔ Kin bs.flatten reg r := by
  have hst := h.still rfl
  rw [before_end] at hst
  refine fun r => ⟨h.sound r, fun hk => ?_⟩
  induction hk with
  | self => exact h.self
  | step h1 h2 h3 h4 _ ih =>
    refine hst _ h1 ?_
    unfold stepB
    rw [h3]
    simp [h2, h4, ih]
def leakB (q : Int → Bool) (ins : Ins) (k : Nat) (v : Opd) : Bool := decide (v.kind = 1) && q v.num && !quietS ins.op k
def NoLeak (q : Int → Bool) (l : List Ins) : Prop := ∀ ins, ins ∈ l → ∀ k v, ins.args[k]? = some v → leakB q ins k v = false
theorem noLeak_next (h : NoLeak q (before bs i j)) (hx : bs[i]? = some x) (hi : x[j]? = some ins) (hn : ∀ k v, k < ins.args.length → ins.args[k]? = some v → leakB q ins k v = false) : NoLeak q (before bs i (j + 1)) := fun y hy k v hv => by
  rw [before_step hx hi] at hy
  rcases List.mem_append.1 hy with hy | hy
  · exact h y hy k v hv
  · rw [List.mem_singleton.1 hy] at hv ⊢
    exact hn k v (List.getElem?_eq_some_iff.1 hv).1 hv
theorem esc_false (hq : ∀ r, q r = true ↔ Kin bs.flatten reg r) (h : NoLeak q bs.flatten) : escS bs reg = false := by
  simp only [escS, decide_eq_false_iff_not]
  rintro ⟨y, h1, k, v, h2, h3, h4, h5⟩
  have := h y h1 k v h2
  unfold leakB at this
  rw [(hq _).2 h4, h5] at this
  simp [h3] at this
theorem esc_true (hq : ∀ r, q r = true ↔ Kin bs.flatten reg r) (hx : bs[i]? = some x) (hi : x[j]? = some ins) {k : Nat} {v : Opd} (hv : ins.args[k]? = some v) (hk : v.kind = 1) (h4 : q v.num = true) (h5 : quietS ins.op k = false) : escS bs reg = true := by
  simp only [escS, decide_eq_true_eq]
  exact ⟨ins, before_mem hx hi, k, v, hv, hk, (hq _).1 h4, h5⟩
end
set_option maxRecDepth 100000 in
set_option maxHeartbeats 12800000 in
theorem escapes_any (f : Fun) (reg : Int) (hreg : I64 reg) (c1 c2 : Value) (w : World) (B : Nat) (hB : B ≤ w.heap.size) (hf : RFun.rep w B [.string f.name, c1, .int .i64 f.ret, c2] f) (hz : funSz f ≤ 2000000) :
    Calls Try.prog 12 #[f.v c1 c2, .int .i64 reg] w (RetB (escS f.blocks reg) w) := by
  have hs := small_of hz
  have hcl : f.blocks.flatten.length ≤ 2000000 := Nat.le_trans (insCount_le f) hz
  obtain ⟨hp, hb⟩ := fun_open (RFun.later hf (Below.refl _ _) hB)
  obtain ⟨A1, k1, h1, -, -⟩ := Rp.slice1_open hp
  obtain ⟨A2, k2, h2, hm2, gb⟩ := Rp.slice1_open hb
  cases h1; cases h2
  replace gb := hide gb
  clear hp hb
  obtain ⟨n, hn⟩ : ∃ n, Hid (n = f.blocks.length) := ⟨_, hide rfl⟩
  have hnle : n ≤ 2000000 := by rw [hn.out]; exact hs.blocks
  obtain ⟨L, hL⟩ : ∃ L, Hid (L = f.blocks.flatten.length) := ⟨_, hide rfl⟩
  rw [← hL.out] at hcl
  rw [← hn.out] at hf hm2 ⊢
  obtain ⟨W, hW, hwW, hWs, hx⟩ := boxes1 w #[.string f.name, .slice A1 f.params.length k1, .int .i64 f.ret, .slice A2 n k2] 32
  have q3 : ∀ w', Below W.heap.size W w' → w'.cell? ⟨w.heap.size, 3, none⟩ = some (.slice A2 n k2) := hx 3 _ rfl
  clear hx
  have hws : w.heap.size ≤ W.heap.size := by omega
  replace hWs := hide hWs
  have hMS := MSet.made W
  obtain ⟨X2, hrun, hm2', hg2⟩ := MSet.store hMS (by unfold maxLen; omega) hreg
  have hbX2 : Below W.heap.size W X2 := ((Below.refl W.heap.size W).alloc (Nat.le_refl _) (.map #[] 0)).trans (hg2.to_below (fun k hk => by have e : k = W.heap.size := hk; omega) (by simp))
  have hq0 : Hid (MSet X2 W.heap.size (0 + 1) fun r => reg == r) := hide (hm2'.congr fun r => by simp)
  obtain ⟨M, hMe⟩ : ∃ M, Hid (M = W.heap.size) := ⟨_, hide rfl⟩
  have hmm := @run_makeMap Try.prog
  replace hg2 := hide hg2
  replace hm2' := hide hm2'
  replace hMS := hide hMS
  go_enter Try.func12, Try.ntmps12
  go_upto_region 2 with (fail)
  rw [← hMe.out] at hq0 ⊢
  have hMs : W.heap.size ≤ M := by rw [hMe.out]; exact Nat.le_refl _
  clear hmm hrun hg2 hm2' hMS
  have hsnd : Hid (∀ r, (reg == r) = true → Kin f.blocks.flatten reg r) := hide (fun r h => by rw [← beq_iff_eq.1 h]; exact .self)
  replace hwW := hide hwW
  replace hs := hide hs
  replace hz := hide hz
  replace hf := hide hf
  have hW2 := hide hW
  clear hW
  go_wp2
  go_loopg [6] (L + 2) (fun g s wr => ∃ (tb : Bool) (c : Nat) (q : Int → Bool), s = .bool tb ∧ Hid (MSet wr M c q) ∧ Hid (q reg = true ∧ ∀ r, q r = true → Kin f.blocks.flatten reg r) ∧ Hid (c + cntQ q f.blocks.flatten ≤ L + 1) ∧ Hid (tb = true → cntQ q f.blocks.flatten + 1 < g) ∧ Hid (tb = false → ∀ r, q r = true ↔ Kin f.blocks.flatten reg r) ∧ Below W.heap.size W wr)
  case atStart => exact ⟨true, 0 + 1, _, rfl, hq0, hide ⟨by simp, hsnd.out⟩, hide (by have : cntQ (fun r => reg == r) f.blocks.flatten ≤ L := (by rw [hL.out]; exact List.length_filter_le _ _); omega), hide (fun _ => by have : cntQ (fun r => reg == r) f.blocks.flatten ≤ L := (by rw [hL.out]; exact List.length_filter_le _ _); omega), hide (fun h => by cases h), hbX2⟩
  case round =>
    clear hq0 hbX2 hsnd
    rename World => V
    obtain ⟨tb, c, q0, rfl, hms, hq, hcq, htb, hcl0, hbel⟩ := hrel
    cases tb with
    | true =>
      have hps : Hid (PassInv f.blocks reg q0 q0 false 0 0) := hide (pass_start hq.out.1 hq.out.2)
      go_wp2
      go_loopw [6, 24] (fun s i wr => ∃ (tb : Bool) (c : Nat) (q : Int → Bool) (k : Nat), s = .bool tb ∧ i = .int .i64 k ∧ k ≤ n ∧ Hid (MSet wr M c q) ∧ Hid (PassInv f.blocks reg q0 q tb k 0) ∧ Hid (c + cntQ q f.blocks.flatten ≤ L + 1) ∧ Below W.heap.size W wr) (fun _ i _ => n - (intOf i).toNat)
      case atStart => exact ⟨false, c, q0, 0, rfl, rfl, Nat.zero_le _, hms, hps, hcq, hbel⟩
      case round =>
        clear hms hps hcq hbel
        obtain ⟨tb, c, q, k, rfl, rfl, hk, hms, hps, hcq, hbel⟩ := hrel
        by_cases hlt : k < n
        · have hki : (k : Int) < (n : Int) := by omega
          obtain ⟨x, hx⟩ := get_ex (l := f.blocks) (k := k) (by rw [← hn.out]; exact hlt)
          obtain ⟨b1, o1, rfl, he1⟩ := gb.out (by rw [← hn.out]; omega)
          obtain ⟨d1, hr1, hd1⟩ := he1 k x hx.out
          obtain ⟨A3, c3, h3, hm3, ga3⟩ := Rp.slice_open hr1
          cases h3
          replace ga3 := hide ga3
          have hd1' : ∀ w', Below W.heap.size W w' → w'.cell? ⟨b1, o1 + k, none⟩ = some (.slice A3 x.length c3) := fun w' h => hd1 w' (hwW.out.trans (h.mono hws))
          clear hd1 hr1 he1
          have hbel2 : Below W.heap.size W (wr.alloc (.cells #[.slice A3 x.length c3] 36)) := hbel.alloc hbel.size _
          have hms2 := hide (hms.out.alloc (.cells #[.slice A3 x.length c3] 36))
          go_wp2
          go_loopw [6, 31] (fun s i wr => ∃ (tb : Bool) (c : Nat) (q : Int → Bool) (j : Nat), s = .bool tb ∧ i = .int .i64 j ∧ j ≤ x.length ∧ Hid (MSet wr M c q) ∧ Hid (PassInv f.blocks reg q0 q tb k j) ∧ Hid (c + cntQ q f.blocks.flatten ≤ L + 1) ∧ Below W.heap.size W wr) (fun _ i _ => x.length - (intOf i).toNat)
          case atStart => exact ⟨tb, c, q, 0, rfl, rfl, Nat.zero_le _, hms2, hps, hcq, hbel2⟩
          case round =>
            clear hms hms2 hps hcq hbel hbel2
            obtain ⟨tb, c, q, j, rfl, rfl, hj, hms, hps, hcq, hbel⟩ := hrel
            by_cases hlt2 : j < x.length
            · have hji : (j : Int) < (x.length : Int) := by omega
              obtain ⟨b3, o3, rfl, he3⟩ := ga3.out (by omega)
              obtain ⟨ins, hins⟩ := get_ex (l := x) (k := j) hlt2
              obtain ⟨_, _, ⟨a1, a2, rfl, ha, hto, -, hokr, -⟩, hc⟩ := he3 j ins hins.out
              obtain ⟨A5, k5, h5, hm5, ga5⟩ := Rp.slice_open ha
              obtain ⟨A6, k6, h6, hm6, -⟩ := Rp.slice1_open hto
              cases h5; cases h6
              replace ga5 := hide ga5
              have hreg9 := hide hokr
              obtain ⟨e0, e1, e2, e3, e4, e5, e6⟩ := (hc.later hwW.out hws).seven
              clear he3 ha hto hc hokr
              obtain ⟨Z, hZ, hwZ, hZs, hzc⟩ := boxes1 wr #[.int .i64 ins.op, .int .i64 ins.reg, .int .i64 ins.ty, .int .i64 ins.num, .int .i64 ins.flags, .slice A5 ins.args.length k5, .slice A6 ins.to.length k6] 39
              have hbelZ : Below W.heap.size W Z := hbel.trans (hwZ.mono hbel.size)
              have hmsZ := hide (hms.out.of_heap (hwZ.block M hms.out.lt))
              have hselfZ := Below.refl Z.heap.size Z
              have y0 := hzc 0 _ rfl Z hselfZ
              have y1 := hzc 1 _ rfl Z hselfZ
              have y5 := hzc 5 _ rfl Z hselfZ
              replace hwZ := hide hwZ
              replace hZs := hide hZs
              replace hZ := hide hZ
              clear hzc hselfZ hms
              have hpsc : Hid (∀ (hn : stepB q ins = true → q ins.reg = true), PassInv f.blocks reg q0 q tb k (j + 1)) := hide (fun h => pass_skip hps.out hx.out hins.out h)
              by_cases hop : ins.op = 29
              · have hopB : (ins.op == 29) = true := by rw [hop]; rfl
                cases hargs : ins.args with
                | nil =>
                  rw [hargs] at y5 ga5
                  have hnx := hide (hpsc.out (fun h => by unfold stepB at h; rw [hargs] at h; simp at h))
                  have hz0 : ¬ ((([] : List Opd).length : Int) > 0) := by simp
                  replace hargs := hide hargs
                  replace hop := hide hop
                  go_upto_region 11 with (fail)
                  rw [hZ.out]
                  clear hZ
                  go_wp2
                  go_roundw
                  case rel => exact ⟨tb, c, q, j + 1, rfl, by go_num, hlt2, hmsZ, hnx, hcq, hbelZ⟩
                  case measure => simp [intOf]; omega
                | cons a rest =>
                  have hargs2 := hide hargs
                  obtain ⟨b5, o5, rfl, he5⟩ := ga5.out (by rw [hargs]; simp)
                  obtain ⟨_, _, ⟨rfl, hIa⟩, hat⟩ := he5 0 a (by rw [hargs]; rfl)
                  obtain ⟨p0, p1, p2⟩ := (hat.later hwW.out hws).three
                  have p0 := p0 Z hbelZ
                  have p1 := p1 Z hbelZ
                  simp only [Nat.zero_mul, Nat.add_zero] at p0 p1
                  have hal : 0 < ins.args.length := by rw [hargs]; simp
                  have hal2 : (ins.args.length : Int) > 0 := by omega
                  have look1 := hmsZ.out.look hIa.2
                  have look2 := hmsZ.out.look hreg9.out
                  clear he5 hat p2
                  replace hargs := hide hargs
                  have hIa := hide hIa
                  by_cases hk1 : a.kind = 1
                  · have hk2 : (a.kind == 1) = true := by rw [hk1]; rfl
                    cases hqa : q a.num with
                    | true =>
                      rw [hqa, if_pos rfl] at look1
                      cases hqr : q ins.reg with
                      | true =>
                        rw [hqr, if_pos rfl] at look2
                        have hnx := hide (hpsc.out (fun _ => hqr))
                        replace hop := hide hop
                        replace hk1 := hide hk1
                        replace hqa := hide hqa
                        replace hqr := hide hqr
                        go_upto_region 11 with (fail)
                        rw [hZ.out]
                        clear hZ
                        go_wp2
                        go_roundw
                        case rel => exact ⟨tb, c, q, j + 1, rfl, by go_num, hlt2, hmsZ, hnx, hcq, hbelZ⟩
                        case measure => simp [intOf]; omega
                      | false =>
                        rw [hqr, if_neg (by decide)] at look2
                        have hmark := hide (pass_mark hps.out hx.out hins.out hop hargs.out hk1 hqa hqr)
                        obtain ⟨Z2, hrun2, hm2, hgZ⟩ := MSet.store hmsZ.out (by unfold maxLen; have := hcq.out; omega) hreg9.out
                        have hbelZ2 : Below W.heap.size W Z2 := hbelZ.trans (hgZ.to_below (fun k hk => by have e : k = M := hk; omega) hbelZ.size)
                        have hcq2 : Hid (c + 1 + cntQ (fun r => q r || ins.reg == r) f.blocks.flatten ≤ L + 1) := hide (by have := hcq.out; have := hmark.out.2; omega)
                        have hnx := hide hmark.out.1
                        have hm2' := hide hm2
                        replace hgZ := hide hgZ
                        replace hop := hide hop
                        replace hk1 := hide hk1
                        replace hqa := hide hqa
                        replace hqr := hide hqr
                        clear hm2 hmark
                        go_upto_region 11 with (fail)
                        rw [hZ.out]
                        clear hZ
                        go_wp2
                        go_roundw
                        case rel => exact ⟨true, c + 1, _, j + 1, rfl, by go_num, hlt2, hm2', hnx, hcq2, hbelZ2⟩
                        case measure => simp [intOf]; omega
                    | false =>
                      rw [hqa, if_neg (by decide)] at look1
                      have hnx := hide (hpsc.out (fun h => by unfold stepB at h; rw [hargs.out] at h; simp [hqa] at h))
                      replace hop := hide hop
                      replace hk1 := hide hk1
                      replace hqa := hide hqa
                      clear look2
                      go_upto_region 11 with (fail)
                      rw [hZ.out]
                      clear hZ
                      go_wp2
                      go_roundw
                      case rel => exact ⟨tb, c, q, j + 1, rfl, by go_num, hlt2, hmsZ, hnx, hcq, hbelZ⟩
                      case measure => simp [intOf]; omega
                  · have hk2 : (a.kind == 1) = false := by rw [beq_eq_false_iff_ne]; exact hk1
                    have hnx := hide (hpsc.out (fun h => by unfold stepB at h; rw [hargs.out] at h; simp [hk1] at h))
                    replace hop := hide hop
                    replace hk1 := hide hk1
                    clear look1 look2
                    go_upto_region 11 with (fail)
                    rw [hZ.out]
                    clear hZ
                    go_wp2
                    go_roundw
                    case rel => exact ⟨tb, c, q, j + 1, rfl, by go_num, hlt2, hmsZ, hnx, hcq, hbelZ⟩
                    case measure => simp [intOf]; omega
              · have hopB : (ins.op == 29) = false := by rw [beq_eq_false_iff_ne]; exact hop
                have hnx := hide (hpsc.out (fun h => by unfold stepB at h; simp [hop] at h))
                replace hop := hide hop
                go_upto_region 11 with (fail)
                rw [hZ.out]
                clear hZ
                go_wp2
                go_roundw
                case rel => exact ⟨tb, c, q, j + 1, rfl, by go_num, hlt2, hmsZ, hnx, hcq, hbelZ⟩
                case measure => simp [intOf]; omega
            · obtain rfl : j = x.length := by omega
              have hnx := hide (pass_block hps.out hx.out)
              go_wp2
              go_roundw
              case rel => exact ⟨tb, c, q, k + 1, rfl, by go_num, hlt, hms, hnx, hcq, hbel⟩
              case measure => simp [intOf]; omega
        · obtain rfl : k = n := by omega
          have hg9 : Hid (tb = true → cntQ q f.blocks.flatten + 1 < gk - 1) := hide (fun h => by have h1 := hps.out.turned h; have h2 := htb.out (by trivial); omega)
          have hgk : Hid (gk - 1 < gk) := hide (by have h2 := htb.out (by trivial); omega)
          have hcl9 : Hid (tb = false → ∀ r, q r = true ↔ Kin f.blocks.flatten reg r) := hide (fun h => by
            subst h
            have h1 := hps.out
            rw [hn.out] at h1
            exact pass_end h1)
          go_wp2
          go_roundg (gk - 1)
          case measure => exact hgk.out
          case rel => exact ⟨tb, c, q, rfl, hms, hide ⟨hps.out.self, hps.out.sound⟩, hcq, hg9, hcl9, hbel⟩
    | false =>
      have hqk : Hid (∀ r, q0 r = true ↔ Kin f.blocks.flatten reg r) := hide (hcl0.out (by trivial))
      obtain ⟨q, hqe⟩ : ∃ q, Hid (q = q0) := ⟨_, hide rfl⟩
      rw [← hqe.out] at hqk hms
      clear hcl0 htb hcq hq hqe
      have hnl : Hid (NoLeak q (before f.blocks 0 0)) := hide (fun y hy => by rw [before_zero] at hy; cases hy)
      go_wp2
      go_loopw [77] (fun i wr => ∃ k : Nat, i = .int .i64 k ∧ k ≤ n ∧ Hid (MSet wr M c q) ∧ Hid (NoLeak q (before f.blocks k 0)) ∧ Below W.heap.size W wr) (fun i _ => n - (intOf i).toNat)
      case atStart => exact ⟨0, rfl, Nat.zero_le _, hms, hnl, hbel⟩
      case round =>
        clear hms hnl hbel
        obtain ⟨k, rfl, hk, hms, hnl, hbel⟩ := hrel
        by_cases hlt : k < n
        · have hki : (k : Int) < (n : Int) := by omega
          obtain ⟨x, hx⟩ := get_ex (l := f.blocks) (k := k) (by rw [← hn.out]; exact hlt)
          obtain ⟨b1, o1, rfl, he1⟩ := gb.out (by rw [← hn.out]; omega)
          obtain ⟨d1, hr1, hd1⟩ := he1 k x hx.out
          obtain ⟨A3, c3, h3, hm3, ga3⟩ := Rp.slice_open hr1
          cases h3
          replace ga3 := hide ga3
          have hd1' : ∀ w', Below W.heap.size W w' → w'.cell? ⟨b1, o1 + k, none⟩ = some (.slice A3 x.length c3) := fun w' h => hd1 w' (hwW.out.trans (h.mono hws))
          clear hd1 hr1 he1
          have hbel2 : Below W.heap.size W (wr.alloc (.cells #[.slice A3 x.length c3] 36)) := hbel.alloc hbel.size _
          have hms2 := hide (hms.out.alloc (.cells #[.slice A3 x.length c3] 36))
          go_wp2
          go_loopw [84] (fun i wr => ∃ j : Nat, i = .int .i64 j ∧ j ≤ x.length ∧ Hid (MSet wr M c q) ∧ Hid (NoLeak q (before f.blocks k j)) ∧ Below W.heap.size W wr) (fun i _ => x.length - (intOf i).toNat)
          case atStart => exact ⟨0, rfl, Nat.zero_le _, hms2, hnl, hbel2⟩
          case round =>
            clear hms hms2 hnl hbel hbel2
            obtain ⟨j, rfl, hj, hms, hnl, hbel⟩ := hrel
            by_cases hlt2 : j < x.length
            · have hji : (j : Int) < (x.length : Int) := by omega
              obtain ⟨b3, o3, rfl, he3⟩ := ga3.out (by omega)
              obtain ⟨ins, hins⟩ := get_ex (l := x) (k := j) hlt2
              obtain ⟨_, _, ⟨a1, a2, rfl, ha, hto, -, hokr, -⟩, hc⟩ := he3 j ins hins.out
              obtain ⟨A5, k5, h5, hm5, ga5⟩ := Rp.slice_open ha
              obtain ⟨A6, k6, h6, hm6, -⟩ := Rp.slice1_open hto
              cases h5; cases h6
              replace ga5 := hide ga5
              have hreg9 := hide hokr
              obtain ⟨e0, e1, e2, e3, e4, e5, e6⟩ := (hc.later hwW.out hws).seven
              clear he3 ha hto hc hokr
              obtain ⟨Z, hZ, hwZ, hZs, hzc⟩ := boxes1 wr #[.int .i64 ins.op, .int .i64 ins.reg, .int .i64 ins.ty, .int .i64 ins.num, .int .i64 ins.flags, .slice A5 ins.args.length k5, .slice A6 ins.to.length k6] 39
              have hbelZ : Below W.heap.size W Z := hbel.trans (hwZ.mono hbel.size)
              have hmsZ := hide (hms.out.of_heap (hwZ.block M hms.out.lt))
              have hselfZ := Below.refl Z.heap.size Z
              have y0 := hzc 0 _ rfl
              have y5 := hzc 5 _ rfl Z hselfZ
              replace hwZ := hide hwZ
              replace hZs := hide hZs
              replace hZ := hide hZ
              clear hzc hms
              go_upto_region 21 with (fail)
              rw [hZ.out]
              clear hZ
              go_wp2
              go_loopw [91] (fun i wr => ∃ m : Nat, i = .int .i64 m ∧ m ≤ ins.args.length ∧ Hid (MSet wr M c q) ∧ Hid (∀ k v, k < m → ins.args[k]? = some v → leakB q ins k v = false) ∧ Below Z.heap.size Z wr) (fun i _ => ins.args.length - (intOf i).toNat)
              case atStart => exact ⟨0, rfl, Nat.zero_le _, hmsZ, hide (fun k v hk => by omega), hselfZ⟩
              case round =>
                clear hmsZ hselfZ
                obtain ⟨m, rfl, hm, hms, hno, hbelm⟩ := hrel
                have hbelW : Below W.heap.size W wr := hbelZ.trans (hbelm.mono hbelZ.size)
                by_cases hlt3 : m < ins.args.length
                · have hmi : (m : Int) < (ins.args.length : Int) := by omega
                  obtain ⟨b5, o5, rfl, he5⟩ := ga5.out (by omega)
                  obtain ⟨v, hv⟩ := get_ex (l := ins.args) (k := m) hlt3
                  obtain ⟨_, _, ⟨rfl, hwv⟩, hat⟩ := he5 m v hv.out
                  obtain ⟨p0, p1, p2⟩ := (hat.later hwW.out hws).three
                  clear he5 hat
                  obtain ⟨U, hU, hwU, hUs, huc⟩ := boxes1 wr #[.int .i64 v.kind, .int .i64 v.num, .int .u64 v.bits] 42
                  have hbelU : Below Z.heap.size Z U := hbelm.trans (hwU.mono hbelm.size)
                  have hmsU := hide (hms.out.of_heap (hwU.block M hms.out.lt))
                  have hselfU := Below.refl U.heap.size U
                  have t0 := huc 0 _ rfl U hselfU
                  have t1 := huc 1 _ rfl U hselfU
                  have look1 := hmsU.out.look hwv.2
                  have hwlast : Hid (Below w.heap.size w U) := hide (hwW.out.trans ((hbelW.trans (hwU.mono hbelW.size)).mono hws))
                  have hnext : Hid (leakB q ins m v = false → ∀ k v, k < m + 1 → ins.args[k]? = some v → leakB q ins k v = false) := hide (fun h k v' hk hv' => by
                    by_cases e : k = m
                    · subst e
                      have := hv.out
                      rw [hv'] at this
                      rw [Option.some.inj this]; exact h
                    · exact hno.out k v' (by omega) hv')
                  have hesc : Hid (v.kind = 1 → q v.num = true → quietS ins.op m = false → escS f.blocks reg = true) := hide (fun h1 h2 h3 => esc_true hqk.out hx.out hins.out hv.out h1 h2 h3)
                  replace hwU := hide hwU
                  replace hUs := hide hUs
                  replace hU := hide hU
                  replace hwv := hide hwv
                  clear huc hms hbelm hselfU
                  go_upto_region 24 with (fail)
                  rw [hU.out]
                  clear hU p0 p1 p2 hbelW
                  by_cases hk1 : v.kind = 1
                  · have hk2 : (v.kind != 1) = false := by rw [hk1]; rfl
                    cases hqa : q v.num with
                    | false =>
                      rw [hqa, if_neg (by decide)] at look1
                      have hno2 := hide (hnext.out (by unfold leakB; simp [hqa]))
                      replace hk1 := hide hk1
                      replace hqa := hide hqa
                      go_wp2
                      go_roundw
                      case rel => exact ⟨m + 1, by go_num, hlt3, hmsU, hno2, hbelU⟩
                      case measure => simp [intOf]; omega
                    | true =>
                      rw [hqa, if_pos rfl] at look1
                      cases hqt : quietS ins.op m with
                      | true =>
                        have hno2 := hide (hnext.out (by unfold leakB; simp [hqt]))
                        replace hk1 := hide hk1
                        replace hqa := hide hqa
                        have y0' := y0 U hbelU
                        have hqt' := hqt
                        unfold quietS at hqt'
                        simp only [Bool.or_eq_true, Bool.and_eq_true, decide_eq_true_eq] at hqt'
                        replace hqt := hide hqt
                        by_cases g1 : ins.op = 27
                        · have g1' : (ins.op == 27) = true := by rw [g1]; rfl
                          replace g1 := hide g1
                          replace hqt' := hide hqt'
                          go_wp2
                          go_roundw
                          case rel => exact ⟨m + 1, by go_num, hlt3, hmsU, hno2, hbelU⟩
                          case measure => simp [intOf]; omega
                        · by_cases g2 : ins.op = 28 ∧ m = 1
                          · obtain ⟨g2, rfl⟩ := g2
                            have g1' : (ins.op == 27) = false := by rw [beq_eq_false_iff_ne]; exact g1
                            have g2' : (ins.op == 28) = true := by rw [g2]; rfl
                            replace g1 := hide g1
                            replace g2 := hide g2
                            replace hqt' := hide hqt'
                            go_wp2
                            go_roundw
                            case rel => exact ⟨1 + 1, by go_num, hlt3, hmsU, hno2, hbelU⟩
                            case measure => simp [intOf]; omega
                          · by_cases g3 : ins.op = 29 ∧ m = 0
                            · obtain ⟨g3, rfl⟩ := g3
                              have g1' : (ins.op == 27) = false := by rw [g3]; rfl
                              have g2' : (ins.op == 28) = false := by rw [g3]; rfl
                              have g3' : (ins.op == 29) = true := by rw [g3]; rfl
                              replace g1 := hide g1
                              replace g2 := hide g2
                              replace g3 := hide g3
                              replace hqt' := hide hqt'
                              go_wp2
                              go_roundw
                              case rel => exact ⟨0 + 1, by go_num, hlt3, hmsU, hno2, hbelU⟩
                              case measure => simp [intOf]; omega
                            · by_cases g4 : ins.op = 14
                              · have g1' : (ins.op == 27) = false := by rw [g4]; rfl
                                have g2' : (ins.op == 28) = false := by rw [g4]; rfl
                                have g3' : (ins.op == 29) = false := by rw [g4]; rfl
                                have g4' : (ins.op == 14) = true := by rw [g4]; rfl
                                replace g1 := hide g1
                                replace g2 := hide g2
                                replace g3 := hide g3
                                replace g4 := hide g4
                                replace hqt' := hide hqt'
                                go_wp2
                                go_roundw
                                case rel => exact ⟨m + 1, by go_num, hlt3, hmsU, hno2, hbelU⟩
                                case measure => simp [intOf]; omega
                              · have g5 : ins.op = 15 := by
                                  rcases hqt' with (((h | h) | h) | h) | h
                                  · exact (g1 h).elim
                                  · exact (g2 h).elim
                                  · exact (g3 h).elim
                                  · exact (g4 h).elim
                                  · exact h
                                have g1' : (ins.op == 27) = false := by rw [g5]; rfl
                                have g2' : (ins.op == 28) = false := by rw [g5]; rfl
                                have g3' : (ins.op == 29) = false := by rw [g5]; rfl
                                have g4' : (ins.op == 14) = false := by rw [g5]; rfl
                                have g5' : (ins.op == 15) = true := by rw [g5]; rfl
                                replace g1 := hide g1
                                replace g2 := hide g2
                                replace g3 := hide g3
                                replace g4 := hide g4
                                replace g5 := hide g5
                                replace hqt' := hide hqt'
                                go_wp2
                                go_roundw
                                case rel => exact ⟨m + 1, by go_num, hlt3, hmsU, hno2, hbelU⟩
                                case measure => simp [intOf]; omega
                      | false =>
                        have hres := hide (hesc.out hk1 hqa hqt)
                        replace hk1 := hide hk1
                        replace hqa := hide hqa
                        have y0' := y0 U hbelU
                        unfold quietS at hqt
                        simp only [Bool.or_eq_false_iff, Bool.and_eq_false_iff, decide_eq_false_iff_not] at hqt
                        obtain ⟨⟨⟨⟨g1, g2⟩, g3⟩, g4⟩, g5⟩ := hqt
                        have g1' : (ins.op == 27) = false := by rw [beq_eq_false_iff_ne]; exact g1
                        have g4' : (ins.op == 14) = false := by rw [beq_eq_false_iff_ne]; exact g4
                        have g5' : (ins.op == 15) = false := by rw [beq_eq_false_iff_ne]; exact g5
                        replace g1 := hide g1
                        replace g4 := hide g4
                        replace g5 := hide g5
                        by_cases k28 : ins.op = 28
                        · have g2' : (ins.op == 28) = true := by rw [k28]; rfl
                          have g3' : (ins.op == 29) = false := by rw [k28]; rfl
                          have m1 : ((m : Int) == 1) = false := by
                            rw [beq_eq_false_iff_ne]
                            rcases g2 with h | h
                            · exact (h k28).elim
                            · omega
                          replace g2 := hide g2
                          replace g3 := hide g3
                          replace k28 := hide k28
                          go_wp2
                          go_ret
                          exact ⟨ret_bool hres.out.symm, hwlast.out⟩
                        · have g2' : (ins.op == 28) = false := by rw [beq_eq_false_iff_ne]; exact k28
                          by_cases k29 : ins.op = 29
                          · have g3' : (ins.op == 29) = true := by rw [k29]; rfl
                            have m1 : ((m : Int) == 0) = false := by
                              rw [beq_eq_false_iff_ne]
                              rcases g3 with h | h
                              · exact (h k29).elim
                              · omega
                            have m2 : ¬ m = 0 := by
                              rcases g3 with h | h
                              · exact (h k29).elim
                              · exact h
                            replace g2 := hide g2
                            replace g3 := hide g3
                            replace k28 := hide k28
                            replace k29 := hide k29
                            go_wp2
                            go_ret
                            exact ⟨ret_bool hres.out.symm, hwlast.out⟩
                          · have g3' : (ins.op == 29) = false := by rw [beq_eq_false_iff_ne]; exact k29
                            replace g2 := hide g2
                            replace g3 := hide g3
                            replace k28 := hide k28
                            replace k29 := hide k29
                            go_wp2
                            go_ret
                            exact ⟨ret_bool hres.out.symm, hwlast.out⟩
                  · have hk2 : (v.kind != 1) = true := by rw [bne_iff_ne]; exact hk1
                    have hno2 := hide (hnext.out (by unfold leakB; simp [hk1]))
                    replace hk1 := hide hk1
                    clear look1
                    go_wp2
                    go_roundw
                    case rel => exact ⟨m + 1, by go_num, hlt3, hmsU, hno2, hbelU⟩
                    case measure => simp [intOf]; omega
                · obtain rfl : m = ins.args.length := by omega
                  have hnl2 := hide (noLeak_next hnl.out hx.out hins.out hno.out)
                  go_wp2
                  go_roundw
                  case rel => exact ⟨j + 1, by go_num, hlt2, hms, hnl2, hbelW⟩
                  case measure => simp [intOf]; omega
            · obtain rfl : j = x.length := by omega
              have hnl2 : Hid (NoLeak q (before f.blocks (k + 1) 0)) := hide (by have := hnl.out; rwa [before_next hx.out] at this)
              go_wp2
              go_roundw
              case rel => exact ⟨k + 1, by go_num, hlt, hms, hnl2, hbel⟩
              case measure => simp [intOf]; omega
        · obtain rfl : k = n := by omega
          have hres : Hid (escS f.blocks reg = false) := hide (by
            have h1 := hnl.out
            rw [hn.out, before_end] at h1
            exact esc_false hqk.out h1)
          have hlast : Hid (Below w.heap.size w wr) := hide (hwW.out.trans (hbel.mono hws))
          go_wp2
          go_ret
          exact ⟨ret_bool hres.out.symm, hlast.out⟩
end Go.Proofs.Ytamjcafjdioidaa
