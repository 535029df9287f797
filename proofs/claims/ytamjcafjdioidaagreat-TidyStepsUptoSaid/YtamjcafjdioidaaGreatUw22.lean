/- Texts of the chain, without what is not wanted: RfE, IrDatc, RfM. No condition but sizes. -/
import Derived.Test.YtamjcafjdioidaaGreatUw21
set_option linter.unusedVariables false
set_option linter.unusedSimpArgs false
set_option maxRecDepth 100000
set_option maxHeartbeats 12800000
namespace Go.Proofs.YtamjcafjdioidaaGreat
open Go.RowKit
def rlo (reg : Int) : Opd → List Opd → Opd × Bool
 | v, []=>(v,decide (v.kind≠0))
 | v,a :: l=>if a.kind=1∧a.num=reg then rlo reg v l else if v.kind≠0∧v≠a then(v,false) else rlo reg a l
theorem rlo_next {reg:Int} {v a:Opd} {l:List Opd} {k:Nat} (h:l[k]? = some a):rlo reg v (l.drop k)=if a.kind=1∧a.num=reg then rlo reg v (l.drop (k+1)) else if v.kind≠0∧v≠a then(v,false) else rlo reg a (l.drop (k+1)):=by
 have h1:=(Js.1 h).1
 have h2:l.drop k=a :: l.drop (k+1):=by
  rw [Jg h1] at h
  injection h with h
  rw [←h,List.getElem_cons_drop]
 rw [h2,rlo]
def LonePost (r:Opd×Bool) (w:World) (e:Ending) (w':World):Prop:=e = .returned (.tuple #[.agg #[.int .i64 r.1.kind, .int .i64 r.1.num, .int .u64 r.1.bits], .bool r.2])∧Below w.heap.size w w'
theorem rlone_any (x : Ins) (ca ct : Value) (w : World) (B : Nat) (hB : B ≤ w.heap.size) (ha : ROpds.rep w B [ca] x.args) :
  Calls Tryz.prog 69 #[x.v ca ct] w (LonePost (rlo x.reg ⟨0,0,0⟩ x.args) w):=by
 obtain⟨A5,k5,h5,hm5,ga⟩:=Rp.slice_open (ROpds.later ha (Below.refl _ _) hB)
 cases h5
 obtain⟨na,hna⟩:=Jn (x.args.length)
 obtain⟨res,hres⟩:=Jn (rlo x.reg ⟨0,0,0⟩ x.args)
 rw [←hres.out]
 rw [←hna.out] at hm5⊢
 obtain⟨Y,hY,hwY,hYs,hx,hy,hz⟩:=boxes3 w #[.int .i64 x.op, .int .i64 x.reg, .int .i64 x.ty, .int .i64 x.num, .int .i64 x.flags, .slice A5 na k5,ct] #[.int .i64 0, .int .i64 0, .int .u64 0] #[.int .i64 0, .int .i64 0, .int .u64 0] 44 62 62
 have hself:=Below.refl Y.heap.size Y
 have hR0:Y.heap[w.heap.size+1]? = some (.cells #[.int .i64 0, .int .i64 0, .int .u64 0] 62 (0,0)):=by
  rw [←hY]
  have h9:=box_under (w.alloc (.cells #[.int .i64 x.op, .int .i64 x.reg, .int .i64 x.ty, .int .i64 x.num, .int .i64 x.flags, .slice A5 na k5,ct] 44)) (.cells #[.int .i64 0, .int .i64 0, .int .u64 0] 62) (.cells #[.int .i64 0, .int .i64 0, .int .u64 0] 62)
  simpa using h9
 have hv0:Y.heap[w.heap.size+1+1]? = some (.cells #[.int .i64 0, .int .i64 0, .int .u64 0] 62 (0,0)):=by
  rw [←hY]
  have h9:=Yu ((w.alloc (.cells #[.int .i64 x.op, .int .i64 x.reg, .int .i64 x.ty, .int .i64 x.num, .int .i64 x.flags, .slice A5 na k5,ct] 44)).alloc (.cells #[.int .i64 0, .int .i64 0, .int .u64 0] 62)) (.cells #[.int .i64 0, .int .i64 0, .int .u64 0] 62)
  simpa using h9
 obtain⟨M,hM⟩:=Jn (w.heap.size)
 obtain⟨Nv,hNv⟩:=Jn (w.heap.size+1+1)
 obtain⟨Nr,hNr⟩:=Jn (w.heap.size+1)
 have hNe:M≠Nv∧Nr≠Nv∧M<Y.heap.size∧Nr<Y.heap.size∧Nv<Y.heap.size∧w.heap.size≤Nv∧w.heap.size≤Nr∧w.heap.size≤Y.heap.size:=by
  have:=hM.out;have:=hNv.out;have:=hNr.out
  omega
 obtain⟨e1,e2,e3,e4,e5,e6,e7,e8⟩:=hNe
 have x1o:∀w',Only (fun q=>q=Nv) Y.heap.size Y w'→w'.cell? ⟨M,1,none⟩=some (.int .i64 x.reg):=Yx (by rw [hM.out];exact hx 1 _ rfl Y hself) e3 e1
 have x5o:∀w',Only (fun q=>q=Nv) Y.heap.size Y w'→w'.cell? ⟨M,5,none⟩=some (.slice A5 na k5):=Yx (by rw [hM.out];exact hx 5 _ rfl Y hself) e3 e1
 rw [←hNr.out] at hR0
 rw [←hNv.out] at hv0
 have hl0:Hid (rlo x.reg ⟨0,0,0⟩ (x.args.drop 0)=res):=hide (by rw [List.drop_zero,hres.out])
 have hon0:Only (fun q=>q=Nv) Y.heap.size Y Y:=Only.refl _ _ _
 have hYw:Hid (∀w',Only (fun q=>q=Nv) Y.heap.size Y w'→Below w.heap.size w w'):=hide (fun w' h9=>hwY.trans (h9.to_below (fun k hk=>by subst hk;omega) e8))
 have hv0h:Hid (Y.heap[Nv]? = some (.cells #[.int .i64 (⟨0,0,0⟩:Opd).kind, .int .i64 (⟨0,0,0⟩:Opd).num, .int .u64 (⟨0,0,0⟩:Opd).bits] 62 (0,0))):=hide hv0
 refine hd5 hR0 ga hY hYs hwY ?_;clear hR0 ga hY hYs hwY;intro hR0 ga hY hYs hwY
 clear hx hy hz ha hv0 hself
 go_enter Tryz.func69,Tryz.ntmps69
 go_upto_region 2 with(fail)
 rw [hY.out,←hNv.out,←hNr.out,←hM.out]
 go_wp2
 go_loopw [5] (fun s wr=>∃(k:Nat) (v:Opd),s = .int .i64 k∧k≤na∧Hid (rlo x.reg v (x.args.drop k)=res)∧Hid (wr.heap[Nv]? = some (.cells #[.int .i64 v.kind, .int .i64 v.num, .int .u64 v.bits] 62 (0,0)))∧Only (fun q=>q=Nv) Y.heap.size Y wr) (fun s _=>na - (intOf s).toNat)
 case atStart=>exact⟨0,⟨0,0,0⟩,rfl,Nat.zero_le _,hl0,hv0h,hon0⟩
 case round =>
  clear hl0 hv0h hon0
  rename World=>V
  obtain⟨k,v,rfl,hk,hlo,hvc,hon⟩:=hrel
  have hVs:=hon.size
  have x1V:=x1o V hon
  have x5V:=x5o V hon
  by_cases hlt:k<na
  ·have hki : (k : Int) < (na : Int) := by omega
   obtain⟨a,haa⟩:=Yf (l:=x.args) (k:=k) (by rw [←hna.out];exact hlt)
   have hnx:=hide (rlo_next (reg:=x.reg) (v:=v) haa.out)
   obtain⟨b5,o5,rfl,he5⟩:=ga.out (by rw [←hna.out];omega)
   obtain⟨_,_,⟨rfl,_⟩,hc⟩:=he5 k a haa.out
   have hbw:=hYw.out V hon
   obtain⟨a0,a1,a2⟩:=hc.three
   replace a0:=a0 V hbw
   replace a1:=a1 V hbw
   replace a2:=a2 V hbw
   obtain⟨Z,hZ,hwZ,hZs,hzz⟩:=Y6 V #[.int .i64 a.kind, .int .i64 a.num, .int .u64 a.bits] 62
   have hselfZ:=Below.refl Z.heap.size Z
   have z0:Z.cell? ⟨V.heap.size,0,none⟩=some (.int .i64 a.kind):=hzz 0 _ rfl Z hselfZ
   have z1:Z.cell? ⟨V.heap.size,1,none⟩=some (.int .i64 a.num):=hzz 1 _ rfl Z hselfZ
   have z2:Z.cell? ⟨V.heap.size,2,none⟩=some (.int .u64 a.bits):=hzz 2 _ rfl Z hselfZ
   have hNlt:Nv<V.heap.size:=(Array.getElem?_eq_some_iff.1 hvc.out).1
   have hvZ:Z.heap[Nv]? = some (.cells #[.int .i64 v.kind, .int .i64 v.num, .int .u64 v.bits] 62 (0,0)):=(hwZ.block Nv hNlt).trans hvc.out
   have u0v:=Yb hvZ 0 rfl
   have u1v:=Yb hvZ 1 rfl
   have u2v:=Yb hvZ 2 rfl
   have onZ:Only (fun q=>q=Nv) Y.heap.size Y Z:=hon.then_below (Nat.le_refl _) hwZ
   have x1Z:=x1o Z onZ
   have hRZ:=(onZ.block Nr e4 e2).trans hR0.out
   have n0:=Yb hRZ 0 rfl
   have n1:=Yb hRZ 1 rfl
   have n2:=Yb hRZ 2 rfl
   have g0:=Ym (j:=0) hRZ
   have g1:=Ym (j:=1) hRZ
   have g2:=Ym (j:=2) hRZ
   have hvZh:=hide hvZ
   have fz:∀j,Z.frozen? ⟨Nv,j,none⟩=false:=fun j=>by simp [World.frozen?,hvZ]
   have fz0:=fz 0
   have fz1:=fz 1
   have fz2:=fz 2
   refine hd4 hwZ hZs hZ hRZ ?_;clear hwZ hZs hZ hRZ;intro hwZ hZs hZ hRZ
   clear hzz hselfZ hvZ fz he5 hc
   go_upto_region 6 with(fail)
   rw [hZ.out]
   clear hZ x1V x5V a0 a1 a2
   by_cases hA:a.kind=1∧a.num=x.reg
   ·obtain ⟨hA1, hA2⟩ := hA
    have hst:Hid (rlo x.reg v (x.args.drop (k+1))=res):=hide (by rw [←hlo.out,hnx.out,if_pos ⟨hA1,hA2⟩])
    rw [hA1] at z0
    rw [hA2] at z1
    refine hd2 hA1 hA2 ?_;clear hA1 hA2;intro hA1 hA2
    go_wp2
    go_roundw
    case rel=>exact⟨k+1,v,by go_num,hlt,hst,hvZh,onZ⟩
    case measure=>simp [intOf];omega
   ·have hn1 := hide (hnx.out.trans (if_neg hA))
    go_cut [28] (fun s wx=>s = .bool false∧wx=Z)
    case first =>
     by_cases hA1:a.kind=1
     ·have hA2 : ¬ a.num = x.reg := fun h => hA ⟨hA1, h⟩
      rw [hA1] at z0
      have q1:(a.num==x.reg)=false:=by simp [hA2]
      refine hd3 hA1 hA2 hA ?_;clear hA1 hA2 hA;intro hA1 hA2 hA
      go_wp2
      go_meet
      exact⟨rfl,rfl⟩
     ·have q1 : (a.kind == 1) = false := by simp [hA1]
      refine hd2 hA1 hA ?_;clear hA1 hA;intro hA1 hA
      go_wp2
      go_meet
      exact⟨rfl,rfl⟩
    case rest =>
     obtain⟨rfl,hw9⟩:=hcut
     subst hw9
     rename World=>Z
     replace hA:=hide hA
     have hZ3:Hid ((((Z.setCell ⟨Nv,0,none⟩ (.int .i64 a.kind)).setCell ⟨Nv,1,none⟩ (.int .i64 a.num)).setCell ⟨Nv,2,none⟩ (.int .u64 a.bits)).heap[Nv]? = some (.cells #[.int .i64 a.kind, .int .i64 a.num, .int .u64 a.bits] 62 (0,0))):=hide (Yr (j:=2) (Yr (j:=1) (Yr (j:=0) hvZh.out)))
     have onZ3:Only (fun q=>q=Nv) Y.heap.size Y (((Z.setCell ⟨Nv,0,none⟩ (.int .i64 a.kind)).setCell ⟨Nv,1,none⟩ (.int .i64 a.num)).setCell ⟨Nv,2,none⟩ (.int .u64 a.bits)):=((onZ.setCell (p:=⟨Nv,0,none⟩) (.inl rfl) _).setCell (p:=⟨Nv,1,none⟩) (.inl rfl) _).setCell (p:=⟨Nv,2,none⟩) (.inl rfl) _
     go_upto_region 7 with(fail)
     obtain⟨fl,hfl⟩:=Jn (decide (v.kind≠0∧v≠a))
     go_cut [36] (fun s wx=>s = .bool fl∧wx=Z)
     case first =>
      by_cases hv1:v.kind=0
      ·obtain rfl : fl = false := by rw [hfl.out]; simp [hv1]
       rw [hv1] at u0v
       replace hv1:=hide hv1
       go_wp2
       go_meet
       exact⟨rfl,rfl⟩
      ·have q1 : (v.kind == 0) = false := by simp [hv1]
       have q2:(v.kind != 0)=true:=by simp [hv1]
       by_cases hC:v=a
       ·obtain rfl : fl = false := by rw [hfl.out]; simp [hC]
        subst hC
        replace hv1:=hide hv1
        go_wp2
        go_meet
        exact⟨by simp,rfl⟩
       ·obtain rfl : fl = true := by rw [hfl.out]; simp [hC, hv1]
        replace hv1:=hide hv1
        go_wp2
        all_goals go_meet
        all_goals first
         | exact⟨rfl,rfl⟩
         | exact absurd (opd_eq3 (by assumption) (by assumption) (by assumption)) hC
     case rest =>
      obtain⟨rfl,hw9⟩:=hcut
      subst hw9
      rename World=>Z
      cases fl with
      | true =>
       have hst:Hid ((v,false)=res):=hide (by rw [←hlo.out,hn1.out,if_pos (of_decide_eq_true hfl.out.symm)])
       have hbz:=hYw.out Z onZ
       replace hfl:=hide hfl.out
       go_wp2
       refine bodyPost_ret (v := .tuple #[.agg #[.int .i64 v.kind, .int .i64 v.num, .int .u64 v.bits], .bool false]) (by simp [results,Tryz.results69,go_sem,n0,n1,n2,g0,g1,g2]) rfl ?_
       have hfin:=((hbz.setCell (p:=⟨Nr,0,none⟩) e7 (.int .i64 v.kind)).setCell (p:=⟨Nr,1,none⟩) e7 (.int .i64 v.num)).setCell (p:=⟨Nr,2,none⟩) e7 (.int .u64 v.bits)
       rw [←hst.out]
       exact⟨rfl,hfin⟩
      | false =>
       have hst:Hid (rlo x.reg a (x.args.drop (k+1))=res):=hide (by rw [←hlo.out,hn1.out,if_neg (of_decide_eq_false hfl.out.symm)])
       replace hfl:=hide hfl.out
       go_wp2
       go_roundw
       case rel=>exact⟨k+1,a,by go_num,hlt,hst,hZ3,onZ3⟩
       case measure=>simp [intOf];omega
  ·obtain rfl : na = k := by omega
   have hst:Hid ((v,decide (v.kind≠0))=res):=hide (by rw [←hlo.out,hna.out,List.drop_length];rfl)
   obtain⟨fl,hfl⟩:=Jn (decide (v.kind≠0))
   have q1:(v.kind != 0)=fl:=by rw [hfl.out,Bool.eq_iff_iff];simp
   have hst2:Hid ((v,fl)=res):=hide (by rw [hfl.out];exact hst.out)
   have u0v:=Yb hvc.out 0 rfl
   have u1v:=Yb hvc.out 1 rfl
   have u2v:=Yb hvc.out 2 rfl
   have hRV:=(hon.block Nr e4 e2).trans hR0.out
   have n0:=Yb hRV 0 rfl
   have n1:=Yb hRV 1 rfl
   have n2:=Yb hRV 2 rfl
   have g0:=Ym (j:=0) hRV
   have g1:=Ym (j:=1) hRV
   have g2:=Ym (j:=2) hRV
   replace hRV:=hide hRV
   have hbz:=hYw.out V hon
   go_upto_region 10 with(fail)
   refine Y8 (S:=fun u=>Only (fun q=>q=Nr) V.heap.size V u) (T:=fun j=>decide (j<6)) (by kernel_rfl) ?_
   have hNvl:Nv<V.heap.size:=(Array.getElem?_eq_some_iff.1 hvc.out).1
   have e9:Nv≠Nr:=Ne.symm e2
   have u0d:∀w',Only (fun q=>q=Nr) V.heap.size V w'→w'.cell? ⟨Nv,0,none⟩=some (.int .i64 v.kind):=Yx u0v hNvl e9
   have u1d:∀w',Only (fun q=>q=Nr) V.heap.size V w'→w'.cell? ⟨Nv,1,none⟩=some (.int .i64 v.num):=Yx u1v hNvl e9
   have u2d:∀w',Only (fun q=>q=Nr) V.heap.size V w'→w'.cell? ⟨Nv,2,none⟩=some (.int .u64 v.bits):=Yx u2v hNvl e9
   have n0d:V.drew.cell? ⟨Nr,0,none⟩=some (.int .i64 0):=n0
   have n1d:V.drew.cell? ⟨Nr,1,none⟩=some (.int .i64 0):=n1
   have n2d:V.drew.cell? ⟨Nr,2,none⟩=some (.int .u64 0):=n2
   have g0d:V.drew.frozen? ⟨Nr,0,none⟩=false:=g0
   have g1d:V.drew.frozen? ⟨Nr,1,none⟩=false:=g1
   have g2d:V.drew.frozen? ⟨Nr,2,none⟩=false:=g2
   have hbd:Below w.heap.size w V.drew:=hbz.drew
   have hS0:Only (fun q=>q=Nr) V.heap.size V V.drew:=(Only.refl _ _ _).drew
   clear u0v u1v u2v n0 n1 n2 g0 g1 g2 hbz
   obtain⟨U0,hU0⟩:∃U0,V.drew=U0:=⟨_,rfl⟩
   rw [hU0] at n0d n1d n2d g0d g1d g2d hbd hS0⊢
   clear hU0
   refine Jt (i:=0) hS0 ?_
   refine Jt (i:=1) hS0 ?_
   refine Jt (i:=2) hS0 ?_
   refine Jt (i:=3) hS0 ?_
   refine Jr (i:=4) fun K hK => ?_
   go_simp
   refine hK.out _ _ (fun _=>((hS0.setCell (p:=⟨Nr,0,none⟩) (.inl rfl) _).setCell (p:=⟨Nr,1,none⟩) (.inl rfl) _).setCell (p:=⟨Nr,2,none⟩) (.inl rfl) _) ?_
   clear hK K
   try simp only [Act.put,List.setIfInBounds_toArray,List.set_cons_zero,List.set_cons_succ]
   refine wpAnyU_take (i:=5) (v := ?_) (by simp only [List.getElem?_toArray,List.getElem?_cons_succ,List.getElem?_cons_zero];rfl) (by kernel_rfl) (by kernel_rfl) (by kernel_rfl) (by kernel_rfl) (by exact fun _ _ _ h=>h) (Or.inl ⟨by rfl,?_⟩) (by exact((hS0.setCell (p:=⟨Nr,0,none⟩) (.inl rfl) _).setCell (p:=⟨Nr,1,none⟩) (.inl rfl) _).setCell (p:=⟨Nr,2,none⟩) (.inl rfl) _) ?_
   rotate_left
   ·intro w9 hSw
    go_simp
    all_goals with_reducible rfl
   try simp only [Act.put,List.setIfInBounds_toArray,List.set_cons_zero,List.set_cons_succ]
   refine Yv (by kernel_rfl) ?_ _
   go_wp2
   refine bodyPost_ret (v := .tuple #[.agg #[.int .i64 v.kind, .int .i64 v.num, .int .u64 v.bits], .bool fl]) (by simp [results,Tryz.results69,go_sem,n0d,n1d,n2d,g0d,g1d,g2d]) rfl ?_
   have hfin:=((hbd.setCell (p:=⟨Nr,0,none⟩) e7 (.int .i64 v.kind)).setCell (p:=⟨Nr,1,none⟩) e7 (.int .i64 v.num)).setCell (p:=⟨Nr,2,none⟩) e7 (.int .u64 v.bits)
   rw [←hst2.out]
   exact⟨rfl,hfin⟩
theorem beforeP_row (bs:List (List Ins)) (n:Nat):Yl bs (n+1) 0=Yl bs n 0++rowP n (bs.getD n []).length:=by
 unfold Yl
 rw [List.range_succ,List.flatMap_append]
 simp [rowP]
theorem beforeP_pre (bs : List (List Ins)) (i : Nat) : ∀ d : Nat, ∃ r, Yl bs i 0 ++ r = Yl bs (i + d) 0
 | 0=>⟨[],by simp⟩
 | d+1=>by
  obtain⟨r,hr⟩:=beforeP_pre bs i d
  exact⟨r++rowP (i+d) (bs.getD (i+d) []).length,by rw [←List.append_assoc,hr,←beforeP_row];rfl⟩
theorem rowP_pre (i:Nat) {j n:Nat} (h:j≤n):∃r,rowP i j++r=rowP i n:=by
 refine⟨((List.range (n - j)).map fun(k:Nat)=>⟨0,(i:Int),((j+k:Nat):Int)⟩),?_⟩
 unfold rowP
 have e:List.range n=List.range j++(List.range (n - j)).map (j + ·):=by
  have := @List.range_add j (n - j)
  rwa [show j+(n - j)=n by omega] at this
 rw [e,List.map_append,List.map_map]
 rfl
theorem beforeP_all {bs:List (List Ins)} {i j:Nat} {x:List Ins} (hx:bs[i]? = some x) (hj:j≤x.length):∃r,Yl bs i j++r=Yl bs bs.length 0:=by
 have hi:=(Js.1 hx).1
 obtain⟨r1,h1⟩:=rowP_pre i hj
 obtain⟨r2,h2⟩:=beforeP_pre bs (i+1) (bs.length - (i+1))
 rw [show i+1+(bs.length - (i+1))=bs.length by omega] at h2
 refine⟨r1++r2,?_⟩
 rw [←h2,beforeP_row,getD_nil hx,←h1]
 simp [Yl,rowP]
theorem pos_place {bs:List (List Ins)} {i j:Nat} {x:List Ins} {ins:Ins} (hx:bs[i]? = some x) (hi:x[j]? = some ins):(Yl bs bs.length 0)[(Y9 bs i j).length]? = some ⟨0,i,j⟩:=by
 have hj:=(Js.1 hi).1
 have hil:=(Js.1 hx).1
 obtain⟨r,hr⟩:=beforeP_all hx (j:=j+1) (by omega)
 rw [←hr,beforeP_step,←Zk i j (.inr ⟨x,hx,by omega⟩) (by omega),List.append_assoc,List.getElem?_append_right (Nat.le_refl _)]
 simp
theorem pos_ins {bs:List (List Ins)} {i j:Nat} {x:List Ins} {ins:Ins} (hx:bs[i]? = some x) (hi:x[j]? = some ins):bs.flatten[(Y9 bs i j).length]? = some ins∧bs.flatten.take (Y9 bs i j).length=Y9 bs i j:=by
 obtain⟨r,hr⟩ := @before_prefix bs i (j+1)
 rw [before_step hx hi] at hr
 rw [←hr,List.append_assoc]
 refine⟨?_,by simp⟩
 rw [List.getElem?_append_right (Nat.le_refl _)]
 simp
theorem before_len {bs:List (List Ins)} {i j:Nat} {x:List Ins} (hx:bs[i]? = some x) (hj:j≤x.length):(Y9 bs i j).length=(Y9 bs i 0).length+j:=by
 unfold Y9
 rw [getD_nil hx]
 simp only [List.length_append,List.take_zero,List.length_nil,Nat.add_zero,List.length_take]
 omega
theorem place_of (bs : List (List Ins)) : ∀ i : Nat, i ≤ bs.length → ∀ k, k < (Y9 bs i 0).length → ∃ i j x ins, bs[i]? = some x ∧ x[j]? = some ins ∧ (Y9 bs i j).length = k
 | 0,_,k,hk=>by simp [Y9] at hk
 | i+1,hi,k,hk=>by
  obtain⟨x,hx⟩:∃x,bs[i]? = some x:=⟨_,Jg (by omega)⟩
  rcases Nat.lt_or_ge k (Y9 bs i 0).length with h|h
  ·exact place_of bs i (by omega) k h
  ·rw [← before_next hx, before_len hx (Nat.le_refl _)] at hk
   refine⟨i,k - (Y9 bs i 0).length,x,x[k - (Y9 bs i 0).length]'(by omega),hx,Jg (by omega),?_⟩
   rw [before_len hx (by omega)]
   omega
theorem def_of {bs:List (List Ins)} {r:Int} {k:Nat} {ins:Ins} (hk:bs.flatten[k]? = some ins) (hd:defs ins r=true) (hn:noDef (bs.flatten.take k) r):∃i j:Nat,IsDef bs r i j∧(Yl bs bs.length 0)[k]? = some ⟨0,i,j⟩:=by
 have hlt:=(Js.1 hk).1
 obtain⟨i,j,x,ins',hx,hi,hl⟩:=place_of bs bs.length (Nat.le_refl _) k (by rw [Z3];exact hlt)
 obtain⟨h1,h2⟩:=pos_ins hx hi
 have h3:=pos_place hx hi
 rw [hl] at h1 h2 h3
 rw [hk] at h1
 injection h1 with h1
 subst h1
 exact⟨i,j,⟨x,ins,hx,hi,hd,h2▸hn⟩,h3⟩
def phI (R:List Bool) (P:List Plc) (fl:List Ins) (i:Nat):Bool:=match fl[i]?,P[i]? with
 | some x,some p=>R.getD p.blk.toNat false&&(decide (x.op=25)&&(rlo x.reg ⟨0,0,0⟩ x.args).2)
 | _,_=>false
def phisS (R:List Bool) (bs:List (List Ins)):Option (List (List Ins)):=((List.range bs.flatten.length).find? (phI R (Yl bs bs.length 0) bs.flatten)).bind fun i=>(bs.flatten[i]?).bind fun x=>((Yl bs bs.length 0)[i]?).map fun p=>Yai bs p.blk.toNat p.pos.toNat x (rlo x.reg ⟨0,0,0⟩ x.args).1
theorem flat_place (bs : List (List Ins)) : ∀ n, n ≤ bs.length → (Yl bs n 0).length = ((bs.take n).flatten).length ∧ ∀ (i : Nat) x, ((bs.take n).flatten)[i]? = some x → ∃ (b k : Nat) (l : List Ins), (Yl bs n 0)[i]? = some ⟨0, b, k⟩ ∧ bs[b]? = some l ∧ l[k]? = some x
 | 0,_=>⟨rfl,fun i x h=>by simp at h⟩
 | n+1,hn=>by
  obtain⟨h1,h2⟩:=flat_place bs n (by omega)
  obtain⟨l,hl⟩:∃l,bs[n]? = some l:=⟨_,Jg (by omega)⟩
  have hg:bs.getD n []=l:=by rw [Jq,hl];rfl
  have ht:(bs.take (n+1)).flatten=(bs.take n).flatten++l:=by
   rw [List.take_add_one,hl,List.flatten_append]
   simp
  rw [beforeP_row,hg,ht]
  have hrl:(rowP n l.length).length=l.length:=by simp [rowP]
  refine⟨by rw [List.length_append,List.length_append,h1,hrl],fun i x hx => ?_⟩
  by_cases hi:i<((bs.take n).flatten).length
  ·rw [List.getElem?_append_left hi] at hx
   obtain⟨b,k,l',g1,g2,g3⟩:=h2 i x hx
   exact⟨b,k,l',by rw [List.getElem?_append_left (by omega)];exact g1,g2,g3⟩
  ·rw [List.getElem?_append_right (by omega)] at hx
   refine⟨n,i - ((bs.take n).flatten).length,l,?_,hl,hx⟩
   rw [List.getElem?_append_right (by omega),h1]
   have hk:=(Js.1 hx).1
   unfold rowP
   rw [List.getElem?_map,List.getElem?_range hk]
   rfl
theorem flat_place_all {bs:List (List Ins)} {i:Nat} {x:Ins} (h:bs.flatten[i]? = some x):∃(b k:Nat) (l:List Ins),(Yl bs bs.length 0)[i]? = some ⟨0,b,k⟩∧bs[b]? = some l∧l[k]? = some x:=by
 have h2:=(flat_place bs bs.length (Nat.le_refl _)).2 i x
 rw [List.take_length] at h2
 exact h2 h
theorem flat_places (bs:List (List Ins)):(Yl bs bs.length 0).length=bs.flatten.length:=by
 have h2:=(flat_place bs bs.length (Nat.le_refl _)).1
 rwa [List.take_length] at h2
theorem rlo_mem {reg : Int} : ∀ {l : List Opd} {v : Opd}, (rlo reg v l).1 = v ∨ (rlo reg v l).1 ∈ l
 | [],v => .inl rfl
 | a :: l,v=>by
  unfold rlo
  split
  ·rcases rlo_mem (reg := reg) (l := l) (v := v) with h | h
   ·exact .inl h
   ·exact .inr (.tail _ h)
  ·split
   ·exact .inl rfl
   ·rcases rlo_mem (reg := reg) (l := l) (v := a) with h | h
    ·exact .inr (by rw [h];exact List.mem_cons_self)
    ·exact .inr (.tail _ h)
theorem opds_i64 {V:World} {B:Nat} {c:Value} {l:List Opd} (h:ROpds.rep V B [c] l):∀a,a∈l→I64 a.kind∧I64 a.num:=fun a ha=>by
 obtain⟨A,k, -, -,g⟩:=Rp.slice_open h
 obtain⟨i,hi⟩:=List.mem_iff_getElem?.1 ha
 obtain⟨b,o, -,h2⟩:=g (by have:=(Js.1 hi).1;omega)
 obtain⟨es, -,⟨-,h5⟩, -⟩:=h2 i a hi
 exact h5
theorem small_erase {f:Fun} {b k:Nat} {l:List Ins} (hs:Zo f) (hl:f.blocks[b]? = some l):Zo (Ye f (f.blocks.set b (l.eraseIdx k))):=by
 refine⟨hs.params,by show(f.blocks.set b _).length≤_;rw [List.length_set];exact hs.blocks,fun x hx => ?_⟩
 rcases List.mem_or_eq_of_mem_set hx with h|h
 ·exact hs.code x h
 ·subst h
  have h9:=hs.code l (Jm hl)
  exact⟨Nat.le_trans (List.Sublist.length_le (List.eraseIdx_sublist _ _)) h9.1,fun i hi=>h9.2 i ((List.eraseIdx_sublist _ _).subset hi)⟩
theorem phis_found {R:List Bool} {bs:List (List Ins)} {i b k:Nat} {x:Ins} {v:Opd} (hx:bs.flatten[i]? = some x) (hp:(Yl bs bs.length 0)[i]? = some ⟨0,b,k⟩) (h:phI R (Yl bs bs.length 0) bs.flatten i=true) (hno:∀j,j<i→phI R (Yl bs bs.length 0) bs.flatten j=false) (hv:(rlo x.reg ⟨0,0,0⟩ x.args).1=v):phisS R bs=some (Yai bs b k x v):=by
 unfold phisS
 rw [Qk (Js.1 hx).1 h hno,Option.bind_some,hx,Option.bind_some,hp,Option.map_some,hv]
 rfl
theorem phis_none {R:List Bool} {bs:List (List Ins)} (hno:∀j,j<bs.flatten.length→phI R (Yl bs bs.length 0) bs.flatten j=false):phisS R bs=none:=by
 unfold phisS
 rw [Zd hno]
 rfl
theorem rphis17_any (f : Fun) (R : List Bool) (gR : Nat) (c1 d1 : Value) (w : World) (B : Nat) (hB : B ≤ w.heap.size) (hf : RFun.rep w B [.string f.name, c1, .int .i64 f.ret, d1] f) (hs : Zo f) (hfl : f.blocks.flatten.length ≤ 2000000) (hRn : R.length = f.blocks.length) (hR : w.ownsRow 0 4 1 (.slice (some ⟨gR, 0, none⟩) f.blocks.length f.blocks.length) f.blocks.length (R.map Value.bool)) :
  Calls Tryz.prog 31 #[f.v c1 d1, .slice (some ⟨gR,0,none⟩) f.blocks.length f.blocks.length] w (MayPost f c1 d1 (phisS R f.blocks) w):=by
 obtain⟨-, -, -, -, -,hret,hnm⟩:=id hf
 obtain⟨hp,hb⟩:=Yk (RFun.later hf (Below.refl _ _) hB)
 obtain⟨A1,k1,h1, -, -⟩:=Rp.slice1_open hp
 obtain⟨A2,k2,h2,hm2, -⟩:=Rp.slice1_open hb
 cases h1;cases h2
 clear hp hb hm2
 obtain⟨n,hn⟩:=Jn (f.blocks.length)
 obtain⟨np,hnp⟩:∃n,Hid (n=f.params.length):=⟨_,hide rfl⟩
 obtain⟨nf,hnf⟩:∃n,Hid (n=f.blocks.flatten.length):=⟨_,hide rfl⟩
 have hnle:n≤2000000:=by rw [hn.out];exact hs.blocks
 have hnfle:nf≤2000000:=by rw [hnf.out];exact hfl
 rw [←hn.out,←hnp.out] at hf
 rw [←hnp.out]
 rw [←hn.out] at hR hRn⊢
 obtain⟨-,hRr⟩:=Yas hR
 obtain⟨res,hres⟩:=Jn (phisS R f.blocks)
 rw [←hres.out]
 obtain⟨W,hW,hwW,hWs,hx1,hx2⟩:=Ql w #[.string f.name, .slice A1 np k1, .int .i64 f.ret, .slice A2 n k2] #[.string ⟨#[]⟩, .slice none 0 0, .int .i64 0, .slice none 0 0] 32 32
 obtain⟨Nr,hNr⟩:=Jn (w.heap.size+1)
 have hR0:W.heap[Nr]? = some (.cells #[.string ⟨#[]⟩, .slice none 0 0, .int .i64 0, .slice none 0 0] 32 (0,0)):=by
  rw [←hW,hNr.out]
  have:=Yu (w.alloc (.cells #[.string f.name, .slice A1 np k1, .int .i64 f.ret, .slice A2 n k2] 32)) (.cells #[.string ⟨#[]⟩, .slice none 0 0, .int .i64 0, .slice none 0 0] 32)
  simpa using this
 have hself:=Below.refl W.heap.size W
 have x0:=hx1 0 _ rfl
 have x1:=hx1 1 _ rfl
 have x2:=hx1 2 _ rfl
 have x3:=hx1 3 _ rfl
 have hNrW:Nr<W.heap.size:=(Array.getElem?_eq_some_iff.1 hR0).1
 have hNrw:w.heap.size≤Nr:=by have:=hNr.out;omega
 have hws:w.heap.size≤W.heap.size:=hwW.size
 have hF:Hid (∀w',Below W.heap.size W w'→RFun.rep w' w'.heap.size [.string f.name, .slice A1 np k1, .int .i64 f.ret, .slice A2 n k2] f):=hide (fun w' h=>RFun.later hf ((hwW.trans (h.mono hws)).mono hB) (by have:=h.size;omega))
 have hRw:Hid (∀(k:Nat) r,R[k]? = some r→∀w',Below W.heap.size W w'→w'.cell? ⟨gR,k,none⟩=some (.bool r)):=hide (fun k r hk w' h=>hRr k r hk w' (hwW.trans (h.mono hws)))
 have hCo:=hide (Yb1 f _ _ W W.heap.size (Nat.le_refl _) (Yk (hF.out W hself)).1 (Yk (hF.out W hself)).2 (by omega))
 have x0W:=x0 W hself
 have x1W:=x1 W hself
 have x2W:=x2 W hself
 have x3W:=x3 W hself
 refine hd10 hR0 hs hf hwW hWs hW hret hnm hRn hR ?_;clear hR0 hs hf hwW hWs hW hret hnm hRn hR;intro hR0 hs hf hwW hWs hW hret hnm hRn hR
 clear hx1 hx2 hRr
 go_enter Tryz.func31,Tryz.ntmps31
 go_upto_region 1 with(fail)
 rw [hW.out,←hNr.out]
 go_wp2_with (fail)
 refine hCo.out.mono ?_
 rintro e V0 ⟨v1,v2,rfl,hbW0,hl,hp⟩
 obtain⟨Al,kl,hle,hml,gl⟩:=Rp.slice_open hl
 cases hle
 obtain⟨Ap,kp,hpe,hmp,gp⟩:=Rp.slice_open hp
 cases hpe
 rw [flat_places] at gp hmp
 rw [flat_places]
 rw [←hnf.out] at gl gp hml hmp⊢
 have hself0:=Below.refl V0.heap.size V0
 have hW0s:=hbW0.size
 have hno0:Hid (∀j,j<0→phI R (Yl f.blocks f.blocks.length 0) f.blocks.flatten j=false):=hide (fun j hj=>absurd hj (Nat.not_lt_zero _))
 refine hd4 hl hp gl gp ?_;clear hl hp gl gp;intro hl hp gl gp
 clear hCo x0W x1W x2W x3W
 go_wp2
 go_loopw [8] (fun s wr=>∃i:Nat,s = .int .i64 i∧i≤nf∧Hid (∀j,j<i→phI R (Yl f.blocks f.blocks.length 0) f.blocks.flatten j=false)∧Below V0.heap.size V0 wr) (fun s _=>nf - (intOf s).toNat)
 case atStart=>exact⟨0,rfl,Nat.zero_le _,hno0,hself0⟩
 case round =>
  clear hno0 hself0 hself
  rename World=>V
  obtain⟨i,rfl,hi,hno,hbV0⟩:=hrel
  have hV0s:=hbV0.size
  have hbV:Below W.heap.size W V:=hbW0.trans (hbV0.mono hW0s)
  have hVs:=hbV.size
  by_cases hlt:i<nf
  ·have hii : (i : Int) < (nf : Int) := by omega
   obtain⟨ins,hins⟩:=Yf (l:=f.blocks.flatten) (k:=i) (by rw [←hnf.out];exact hlt)
   obtain⟨b,k,l,hpl,hbl,hlk⟩:=flat_place_all hins.out
   have hbn:b<n:=by rw [hn.out];exact(Js.1 hbl).1
   have hbi:(b:Int)<(n:Int):=by omega
   obtain⟨rb,hrb⟩:=Yf (l:=R) (k:=b) (by rw [hRn.out];exact hbn)
   obtain⟨bl,ol,rfl,hel⟩:=gl.out (by omega)
   obtain⟨esl,hesl,hrl,hcl⟩:=hel i ins hins.out
   obtain⟨ca,ct,he7,hra,hrt,hwf7⟩:=hrl
   subst he7
   obtain⟨A5,k5,h5, -, -⟩:=Rp.slice_open hra
   obtain⟨A6,k6,h6, -, -⟩:=Rp.slice1_open hrt
   cases h5;cases h6
   obtain⟨na,hna⟩:=Jn (ins.args.length)
   obtain⟨nt,hnt⟩:=Jn (ins.to.length)
   rw [←hna.out] at hra hcl
   rw [←hnt.out] at hcl hrt
   obtain⟨f0,f1,f2,f3,f4,f5,f6⟩:=hcl.seven
   have e0:=f0 V hbV0
   have e1:=f1 V hbV0
   have e2:=f2 V hbV0
   have e3:=f3 V hbV0
   have e4:=f4 V hbV0
   have e5:=f5 V hbV0
   have e6:=f6 V hbV0
   obtain⟨bp,op,rfl,hep⟩:=gp.out (by omega)
   obtain⟨esp,hesp,⟨he3, -⟩,hcp⟩:=hep i _ hpl
   have he3:esp = [.int .i64 0, .int .i64 b, .int .i64 k]:=he3
   subst he3
   obtain⟨p0,p1,p2⟩:=hcp.three
   have p0V:=p0 V hbV0
   have p1V:=p1 V hbV0
   have p2V:=p2 V hbV0
   have hgR:=hRw.out b rb hrb.out V hbV
   have hgetR:Hid (R.getD b false=rb):=hide (by rw [Jq,hrb.out];rfl)
   have hph:Hid (phI R (Yl f.blocks f.blocks.length 0) f.blocks.flatten i=(rb&&(decide (ins.op=25)&&(rlo ins.reg ⟨0,0,0⟩ ins.args).2))):=hide (by
    unfold phI
    rw [hins.out,hpl]
    show(R.getD ((b:Nat):Int).toNat false&&_)=_
    rw [Int.toNat_natCast,hgetR.out])
   have hstep:Hid (phI R (Yl f.blocks f.blocks.length 0) f.blocks.flatten i=false→∀j,j<i+1→phI R (Yl f.blocks f.blocks.length 0) f.blocks.flatten j=false):=hide (fun h9 j hj=>by
    rcases Nat.lt_succ_iff_lt_or_eq.1 hj with h1|h1
    ·exact hno.out j h1
    ·rw [h1];exact h9)
   have hra9:=hide (ROpds.later hra hbV0 (by omega))
   have hai:=hide (opds_i64 hra)
   refine hd9 hpl hbl hlk hrb hra hrt hwf7 hel hep ?_;clear hpl hbl hlk hrb hra hrt hwf7 hel hep;intro hpl hbl hlk hrb hra hrt hwf7 hel hep
   clear hcl hcp hesl hesp
   by_cases h25:ins.op=25
   case neg =>
    have hnx:=hide (hstep.out (by rw [hph.out];simp [h25]))
    have q25:(ins.op != 25)=true:=by simp [h25]
    replace h25:=hide h25
    clear f0 f1 f2 f3 f4 f5 f6 p0 p1 p2
    go_wp2
    go_roundw
    case rel=>exact⟨i+1,by go_num,hlt,hnx,hbV0⟩
    case measure=>simp [intOf];omega
   have q25:(ins.op != 25)=false:=by simp [h25]
   replace h25:=hide h25
   cases rb with
   | false =>
    have hnx:=hide (hstep.out (by rw [hph.out];rfl))
    clear f0 f1 f2 f3 f4 f5 f6 p0 p1 p2
    go_wp2
    go_roundw
    case rel=>exact⟨i+1,by go_num,hlt,hnx,hbV0⟩
    case measure=>simp [intOf];omega
   | true =>
   obtain⟨v,hv⟩:∃v,Hid ((rlo ins.reg ⟨0,0,0⟩ ins.args).1=v):=⟨_,hide rfl⟩
   obtain⟨bb,hbb⟩:∃bb,Hid ((rlo ins.reg ⟨0,0,0⟩ ins.args).2=bb):=⟨_,hide rfl⟩
   have cLo:Hid (∀w',Below V.heap.size V w'→Calls Tryz.prog 69 #[ins.v (.slice A5 na k5) (.slice A6 nt k6)] w' fun e w''=>e = .returned (.tuple #[.agg #[.int .i64 v.kind, .int .i64 v.num, .int .u64 v.bits], .bool bb])∧Below w'.heap.size w' w''):=hide (fun w' h9=>by
    have h8:=rlone_any ins (.slice A5 na k5) (.slice A6 nt k6) w' w'.heap.size (Nat.le_refl _) (ROpds.later hra9.out h9 (by have:=h9.size;omega))
    unfold LonePost at h8
    rw [hv.out,hbb.out] at h8
    exact h8)
   have hv64:Hid (I64 v.kind∧I64 v.num):=hide (by
    rw [←hv.out]
    rcases rlo_mem (reg:=ins.reg) (l:=ins.args) (v:=⟨0,0,0⟩) with h|h
    ·rw [h];exact⟨by decide,by decide⟩
    ·exact hai.out _ h)
   have hselfV:=Below.refl V.heap.size V
   go_wp2_with (fail)
   refine(cLo.out V hselfV).mono ?_
   rintro e V1 ⟨rfl,hb1⟩
   obtain⟨V2,hV2,hb12,h2s,hxi⟩:=Y6 V1 #[.int .i64 v.kind, .int .i64 v.num, .int .u64 v.bits] 62
   obtain⟨Nv,hNv⟩:=Jn (V1.heap.size)
   have i0:=hxi 0 _ rfl
   have i1:=hxi 1 _ rfl
   have i2:=hxi 2 _ rfl
   rw [←hNv.out] at i0 i1 i2
   have hself2:=Below.refl V2.heap.size V2
   have hb02:Below V0.heap.size V0 V2:=(hbV0.trans (hb1.mono hV0s)).trans (hb12.mono (by have:=hb1.size;omega))
   have hbV2:Below W.heap.size W V2:=hbW0.trans (hb02.mono hW0s)
   refine hd4 hV2 h2s hb1 hb12 ?_;clear hV2 h2s hb1 hb12;intro hV2 h2s hb1 hb12
   clear hxi e0 e1 e2 e3 e4 e5 e6 p0V p1V p2V hgR hselfV
   go_upto_region 7 with(fail)
   rw [hV2.out,←hNv.out]
   cases bb with
   | false =>
    have hnx:=hide (hstep.out (by rw [hph.out,hbb.out];simp))
    clear f0 f1 f2 f3 f4 f5 f6 p0 p1 p2 i0 i1 i2
    go_wp2
    go_roundw
    case rel=>exact⟨i+1,by go_num,hlt,hnx,hb02⟩
    case measure=>simp [intOf];omega
   | true =>
   have hfin2:Hid (res=some (Yai f.blocks b k ins v)):=hide (by
    rw [hres.out]
    exact phis_found hins.out hpl.out (by rw [hph.out,hbb.out];simp [h25.out]) hno.out hv.out)
   have hglb:Hid (f.blocks.getD b []=l):=hide (by rw [Jq,hbl.out];rfl)
   go_upto_region 8 with(fail)
   have hV02:=hb02.size
   have hVW2:=hbV2.size
   have y0:∀w',Below V2.heap.size V2 w'→w'.cell? ⟨w.heap.size,0,none⟩=some (.string f.name):=fun w' h9=>x0 w' (hbV2.trans (h9.mono hVW2))
   have y1:∀w',Below V2.heap.size V2 w'→w'.cell? ⟨w.heap.size,1,none⟩=some (.slice A1 np k1):=fun w' h9=>x1 w' (hbV2.trans (h9.mono hVW2))
   have y2:∀w',Below V2.heap.size V2 w'→w'.cell? ⟨w.heap.size,2,none⟩=some (.int .i64 f.ret):=fun w' h9=>x2 w' (hbV2.trans (h9.mono hVW2))
   have y3:∀w',Below V2.heap.size V2 w'→w'.cell? ⟨w.heap.size,3,none⟩=some (.slice A2 n k2):=fun w' h9=>x3 w' (hbV2.trans (h9.mono hVW2))
   have y4:∀w',Below V2.heap.size V2 w'→w'.cell? ⟨bp,op+i*3,none⟩=some (.int .i64 0):=fun w' h9=>p0 w' (hb02.trans (h9.mono hV02))
   have y5:∀w',Below V2.heap.size V2 w'→w'.cell? ⟨bp,op+i*3+1,none⟩=some (.int .i64 b):=fun w' h9=>p1 w' (hb02.trans (h9.mono hV02))
   have y6:∀w',Below V2.heap.size V2 w'→w'.cell? ⟨bp,op+i*3+2,none⟩=some (.int .i64 k):=fun w' h9=>p2 w' (hb02.trans (h9.mono hV02))
   have y7:∀w',Below V2.heap.size V2 w'→w'.cell? ⟨bl,ol+i*7+1,none⟩=some (.int .i64 ins.reg):=fun w' h9=>f1 w' (hb02.trans (h9.mono hV02))
   have hx9:Hid (∀w',Below V2.heap.size V2 w'→Below W.heap.size W w'):=hide (fun w' h9=>hbV2.trans (h9.mono hVW2))
   clear f0 f1 f2 f3 f4 f5 f6 p0 p1 p2
   refine Y8 (S:=fun u=>Below V2.heap.size V2 u) (T:=fun j=>decide (j<13)) (by kernel_rfl) ?_
   obtain⟨R0,hR9⟩:∃R0,V2.drew=R0:=⟨_,rfl⟩
   have hS0:Hid (Below V2.heap.size V2 R0):=hide (by rw [←hR9];exact hself2.drew)
   rw [hR9]
   clear hR9
   refine Jt (i:=0) hS0.out ?_
   refine Jt (i:=1) hS0.out ?_
   refine Jt (i:=2) hS0.out ?_
   refine Jt (i:=3) hS0.out ?_
   refine Jt (i:=4) hS0.out ?_
   refine Jt (i:=6) hS0.out ?_
   refine Jt (i:=7) hS0.out ?_
   refine Jt (i:=8) hS0.out ?_
   refine Jt (i:=9) hS0.out ?_
   refine Jt (i:=10) hS0.out ?_
   refine Jt (i:=11) hS0.out ?_
   refine Jr (i:=5) fun K hK => ?_
   (try go_simp)
   go_at_call 71
   refine(rwo15_any f 0 b k l hbl.out (Js.1 hlk.out).1 (.slice A1 np k1) (.slice A2 n k2) _ _ (Nat.le_refl _) (hF.out _ (hx9.out _ hS0.out)) hs.out).mono ?_
   rintro e K1 ⟨c8,d8,rfl,hI8,hK8,hb8⟩
   have hS1:Hid (Below V2.heap.size V2 K1):=hide (hS0.out.trans (hb8.mono hS0.out.size))
   have hr8:=hide (own_rep (f:=Ye f (f.blocks.set b (l.eraseIdx k))) hI8 hK8 hret.out hnm.out)
   refine hd3 hI8 hK8 hb8 ?_;clear hI8 hK8 hb8;intro hI8 hK8 hb8
   refine Jo hK (fun _=>hS1.out) ?_;clear hK K
   refine Jr (i:=12) fun K hK => ?_
   (try go_simp)
   go_at_call 70
   refine(show Calls Tryz.prog 70 #[f.v c8 d8, .int .i64 ins.reg, .agg #[.int .i64 v.kind, .int .i64 v.num, .int .u64 v.bits]] K1 (TreePost f (Yaq (rsub ins.reg v) (f.blocks.set b (l.eraseIdx k))) K1) from rreplace_any (Ye f (f.blocks.set b (l.eraseIdx k))) ins.reg v hv64.out c8 d8 _ _ (Nat.le_refl _) hr8.out (small_erase hs.out hbl.out)).mono ?_
   rintro e K2 ⟨c9,d9,L9,rfl,hI9, -,⟨xs9,ess9,hK9⟩,hL9,hb9⟩
   have hS2:Hid (Below V2.heap.size V2 K2):=hide (hS1.out.trans (hb9.mono hS1.out.size))
   have o1:OwnI K2 K1.heap.size c9 f.params:=hI9
   have o2:OwnK K2 K1.heap.size d9 (Yai f.blocks b k ins v):=by
    have h9:=hK9.own.mono hL9
    unfold Yai
    rw [hglb.out]
    exact h9
   obtain⟨Ac,kc,hcf⟩:=Yd o1.row
   subst hcf
   obtain⟨Ad,kd,hdf⟩:=o2.form0'
   subst hdf
   obtain⟨nb2,hnb2⟩:∃x,Hid (x=(Yai f.blocks b k ins v).length):=⟨_,hide rfl⟩
   rw [←hnp.out] at o1⊢
   rw [←hnb2.out] at o2⊢
   have hRV:=((hx9.out _ hS2.out).block Nr hNrW).trans hR0.out
   obtain⟨n0,n1,n2,n3⟩:=bx4 hRV
   obtain⟨g0,g1,g2,g3⟩:=bf4 hRV
   refine hd4 hRV o1 o2 hb9 ?_;clear hRV o1 o2 hb9;intro hRV o1 o2 hb9
   clear hI9 hK9 hL9
   refine Jo hK (fun _=>hS2.out) ?_;clear hK K
   refine Jr (i:=13) fun K hK => ?_
   go_simp
   refine Jo hK (fun h=>absurd h (by decide)) ?_;clear hK K
   refine Jy (i:=14) ?_
   refine Yv (by kernel_rfl) ?_ _
   go_wp2
   refine bodyPost_ret (v := .tuple #[f.v (.slice Ac np kc) (.slice Ad nb2 kd), .bool true]) (by simp [results,Tryz.results31,go_sem,n0,n1,n2,n3,g0,g1,g2,g3]) rfl ?_
   rw [hfin2.out]
   have hwV:=hwW.out.trans ((hx9.out _ hS2.out).mono hws)
   have hfin:=(((hwV.setCell (p:=⟨Nr,0,none⟩) hNrw (.string f.name)).setCell (p:=⟨Nr,1,none⟩) hNrw (.slice Ac np kc)).setCell (p:=⟨Nr,2,none⟩) hNrw (.int .i64 f.ret)).setCell (p:=⟨Nr,3,none⟩) hNrw (.slice Ad nb2 kd)
   have hV2R:=hS1.out.size
   exact⟨hfin,_,_,rfl,(o1.out.kept fun k hk _=>Z8 _ _ _ _ _ (show k≠Nr by omega)).mono (by omega),(o2.out.kept fun k hk _=>Z8 _ _ _ _ _ (show k≠Nr by omega)).mono (by omega)⟩
  ·obtain rfl : nf = i := by omega
   have hfin2:Hid (res=none):=hide (by rw [hres.out];exact phis_none (by rw [←hnf.out];exact hno.out))
   have x0V:=x0 V hbV
   have x1V:=x1 V hbV
   have x2V:=x2 V hbV
   have x3V:=x3 V hbV
   have hRV:=(hbV.block Nr hNrW).trans hR0.out
   obtain⟨n0,n1,n2,n3⟩:=bx4 hRV
   obtain⟨g0,g1,g2,g3⟩:=bf4 hRV
   replace hRV:=hide hRV
   go_wp2
   refine bodyPost_ret (v := .tuple #[f.v (.slice A1 np k1) (.slice A2 n k2), .bool false]) (by simp [results,Tryz.results31,go_sem,n0,n1,n2,n3,g0,g1,g2,g3]) rfl ?_
   rw [hfin2.out]
   have hwV:=hwW.out.trans (hbV.mono hws)
   have hfin:=(((hwV.setCell (p:=⟨Nr,0,none⟩) hNrw (.string f.name)).setCell (p:=⟨Nr,1,none⟩) hNrw (.slice A1 np k1)).setCell (p:=⟨Nr,2,none⟩) hNrw (.int .i64 f.ret)).setCell (p:=⟨Nr,3,none⟩) hNrw (.slice A2 n k2)
   exact⟨hfin,rfl⟩
end Go.Proofs.YtamjcafjdioidaaGreat
