/- Texts of the chain, without what is not wanted: VrL, GrY. No condition but sizes. -/
import Derived.Test.YtamjcafjdioidaaGreatUw29
set_option linter.unusedVariables false
set_option linter.unusedSimpArgs false
set_option maxRecDepth 100000
set_option maxHeartbeats 12800000
namespace Go.Proofs.YtamjcafjdioidaaGreat
open Go.RowKit
theorem registers08_any (f : Fun) (n : Int) (c1 c2 : Value) (w : World) (B : Nat) (hB : B ≤ w.heap.size) (hf : RFun.rep w B [.string f.name, c1, .int .i64 f.ret, c2] f) (hsz : Ybo f ≤ 2000000) :
  Calls Tryz.prog 48 #[f.v c1 c2, .int .i64 n] w (Z2 (RegsOk f) w):=by
 have hs:Zo f:=Ybu hsz
 obtain⟨PP,hPP⟩:∃PP:Prop,Hid (PP=RegsOk f):=⟨_,hide rfl⟩
 rw [←hPP.out]
 obtain⟨hp,hb⟩:=Yk (RFun.later hf (Below.refl _ _) hB)
 obtain⟨A1,k1,h1,hm1,gp⟩:=Rp.slice1_open hp
 obtain⟨A2,k2,h2,hm2,gb⟩:=Rp.slice1_open hb
 cases h1;cases h2
 replace gp:=hide gp
 replace gb:=hide gb
 clear hp hb
 obtain⟨N,hN⟩:=Jn (f.blocks.length)
 obtain⟨np,hnp⟩:=Jn (f.params.length)
 have hNle:N≤2000000:=by rw [hN.out];exact hs.blocks
 rw [←hN.out,←hnp.out] at hf⊢
 rw [←hN.out] at hm2
 rw [←hnp.out] at hm1
 obtain⟨W,hW,hwW,hWs,hx,hy⟩:=Ql w #[.string f.name, .slice A1 np k1, .int .i64 f.ret, .slice A2 N k2] #[.int .i64 0, .int .i64 0, .int .i64 0, .int .i64 0] 32 50
 have q0:∀w',Below W.heap.size W w'→w'.cell? ⟨w.heap.size,0,none⟩=some (.string f.name):=hx 0 _ rfl
 have q1:∀w',Below W.heap.size W w'→w'.cell? ⟨w.heap.size,1,none⟩=some (.slice A1 np k1):=hx 1 _ rfl
 have q2:∀w',Below W.heap.size W w'→w'.cell? ⟨w.heap.size,2,none⟩=some (.int .i64 f.ret):=hx 2 _ rfl
 have q3:∀w',Below W.heap.size W w'→w'.cell? ⟨w.heap.size,3,none⟩=some (.slice A2 N k2):=hx 3 _ rfl
 obtain⟨R,hRd⟩:=Jn (w.heap.size+1)
 have hR:Hid (W.heap[R]? = some (.cells #[.int .i64 0, .int .i64 0, .int .i64 0, .int .i64 0] 50 (0,0))):=hide (by
  rw [hRd.out,←hW]
  have:=Yu (w.alloc (.cells #[.string f.name, .slice A1 np k1, .int .i64 f.ret, .slice A2 N k2] 32)) (.cells #[.int .i64 0, .int .i64 0, .int .i64 0, .int .i64 0] 50)
  simpa using this)
 have hRW:R<W.heap.size:=by have:=hRd.out;omega
 have hRw:Hid (w.heap.size≤R):=hide (by have:=hRd.out;omega)
 clear hx hy
 have hws:w.heap.size≤W.heap.size:=by omega
 have hwX:Hid (∀w',Below W.heap.size W w'→Below w.heap.size w w'):=hide (fun w' h=>hwW.trans (h.mono hws))
 have hF:Hid (∀w',Below W.heap.size W w'→RFun.rep w' w'.heap.size [.string f.name, .slice A1 np k1, .int .i64 f.ret, .slice A2 N k2] f):=hide (fun w' h=>RFun.later hf ((hwX.out w' h).mono hB) (Nat.le_trans hB (hwX.out w' h).size))
 have hCo:Hid (∀w',Below W.heap.size W w'→Calls Tryz.prog 68 #[f.v (.slice A1 np k1) (.slice A2 N k2)] w' (CodePost f w')):=hide (fun w' h=>Yb1 f _ _ w' w'.heap.size (Nat.le_refl _) (Yk (hF.out w' h)).1 (Yk (hF.out w' h)).2 (by have:=Yac f;omega))
 have hzb:Hid (∀x,x∈f.blocks→x.length≤2000000):=hide (fun x hx=>(hs.code x hx).1)
 refine hd3 hs hf hWs ?_;clear hs hf hWs;intro hs hf hWs
 have hself:=Below.refl W.heap.size W
 replace hW:=hide hW
 replace hwW:=hide hwW
 have hDe:Hid (∀(r:Int) w',Below W.heap.size W w'→Calls Tryz.prog 94 #[f.v (.slice A1 np k1) (.slice A2 N k2), .int .i64 r] w' (DefPost f r w')):=hide (fun r w' h=>rdef_any f r _ _ w' w'.heap.size (Nat.le_refl _) (Yk (hF.out w' h)).1 (Yk (hF.out w' h)).2 (by have:=parts_flat f;omega))
 go_enter Tryz.func48,Tryz.ntmps48
 go_upto_region 1 with(fail)
 rw [hW.out,←hRd.out]
 clear hW
 go_wp2_with (fail)
 refine(hCo.out _ hself).mono ?_
 rintro e V0 ⟨vl,vp,rfl,hb0,hl,hpl⟩
 obtain⟨A3,k3,h3,hm3,gl⟩:=Rp.slice_open hl
 obtain⟨A4,k4,h4,hm4,gpl⟩:=Rp.slice_open hpl
 cases h3;cases h4
 have hpp:(Yl f.blocks f.blocks.length 0).length=f.blocks.flatten.length:=by rw [Zk _ _ (.inl rfl) (Nat.le_refl _),Z3]
 have hbV0:=hself.trans (hb0.mono hself.size)
 replace gl:=hide gl
 replace gpl:=hide gpl
 obtain⟨l,hll⟩:∃l:List Ins,Hid (l=f.blocks.flatten):=⟨_,hide rfl⟩
 obtain⟨pl,hpll⟩:∃pl:List Plc,Hid (pl=Yl f.blocks f.blocks.length 0):=⟨_,hide rfl⟩
 rw [←hll.out] at gl hpp hm3⊢
 rw [←hpll.out] at gpl hpp hm4⊢
 obtain⟨nl,hnl⟩:=Jn (l.length)
 rw [hpp,←hnl.out] at gpl hm4⊢
 rw [←hnl.out] at gl hm3
 have hpl2:Hid (pl.length=nl):=hide (by rw [hpp,hnl.out])
 clear hl hpl hpp hb0
 have hPP:Hid (PP=∀(i:Nat) x p,l[i]? = some x→pl[i]? = some p→RegOk f x p):=hide (by rw [hPP.out,hll.out,hpll.out];rfl)
 have hnl2:nl≤2000000:=by have h1:=Yac f;rw [hnl.out,hll.out];omega
 have hself0:=Below.refl V0.heap.size V0
 have hok0:Hid (∀(j:Nat) x p,j<0→l[j]? = some x→pl[j]? = some p→RegOk f x p):=hide (fun j x p h=>by omega)
 have h0W:Hid (∀w',Below V0.heap.size V0 w'→Below W.heap.size W w'):=hide (fun w' h=>hbV0.trans (h.mono hbV0.size))
 have qq0:∀w',Below V0.heap.size V0 w'→w'.cell? ⟨w.heap.size,0,none⟩=some (.string f.name):=fun w' h=>q0 w' (h0W.out w' h)
 have qq1:∀w',Below V0.heap.size V0 w'→w'.cell? ⟨w.heap.size,1,none⟩=some (.slice A1 np k1):=fun w' h=>q1 w' (h0W.out w' h)
 have qq2:∀w',Below V0.heap.size V0 w'→w'.cell? ⟨w.heap.size,2,none⟩=some (.int .i64 f.ret):=fun w' h=>q2 w' (h0W.out w' h)
 have qq3:∀w',Below V0.heap.size V0 w'→w'.cell? ⟨w.heap.size,3,none⟩=some (.slice A2 N k2):=fun w' h=>q3 w' (h0W.out w' h)
 clear q0 q1 q2 q3 hself hbV0
 go_wp2
 go_loopw [7,8,9] (fun s7 _ _ wr=>∃i:Nat,s7 = .int .i64 i∧i≤nl∧Hid (∀(j:Nat) x p,j<i→l[j]? = some x→pl[j]? = some p→RegOk f x p)∧Below V0.heap.size V0 wr) (fun s7 _ _ _=>nl - (intOf s7).toNat)
 case atStart=>exact⟨0,rfl,Nat.zero_le _,hok0,hself0⟩
 case round =>
  clear hok0 hself0
  rename World=>V
  obtain⟨i,rfl,hi,hok,hbel0⟩:=hrel
  have hbel:=h0W.out V hbel0
  have hVs:=hbel0.size
  by_cases hlt:i<nl
  ·have hii : (i : Int) < (nl : Int) := by omega
   obtain⟨x,hx⟩:=Yf (l:=l) (k:=i) (by rw [←hnl.out];exact hlt)
   obtain⟨p,hp⟩:=Yf (l:=pl) (k:=i) (by rw [hpl2.out];exact hlt)
   obtain⟨b3,o3,hA3,he3⟩:=gl.out (by omega)
   subst hA3
   obtain⟨b4,o4,hA4,he4⟩:=gpl.out (by omega)
   subst hA4
   obtain⟨_,_,⟨a1',a2',rfl,hra,hrt, -,hI2,hI3,hI4,hI5⟩,hcx⟩:=he3 i x hx.out
   obtain⟨A5,k5,h5,hm5,ga⟩:=Rp.slice_open hra
   obtain⟨A6,k6,h6,hm6,gt⟩:=Rp.slice1_open hrt
   cases h5;cases h6
   replace ga:=hide ga
   replace gt:=hide gt
   obtain⟨es4,hel4,hr4,hcp⟩:=he4 i p hp.out
   have hr4:=hr4.1
   subst hr4
   obtain⟨x0,x1,x2,x3,x4,x5,x6⟩:=hcx.seven
   obtain⟨t0,t1,t2⟩:=hcp.three
   clear he3 he4 hcx hcp hra hrt hel4
   obtain⟨pb,pj,blk,hpe,hpbn,hpblk,hpx⟩:=place8_of (bs:=f.blocks) (Nat.le_refl _) (by rw [Z3,←hll.out];exact hx.out) (by rw [←hpll.out];exact hp.out)
   subst hpe
   replace hpblk:=hide hpblk
   replace hpx:=hide hpx
   have hno:Hid (¬RegOk f x ⟨0,pb,pj⟩→¬PP):=hide (fun h1 h2=>h1 (by rw [hPP.out] at h2;exact h2 i x _ hx.out hp.out))
   have hstep:Hid (RegOk f x ⟨0,pb,pj⟩→∀(j:Nat) x p,j<i+1→l[j]? = some x→pl[j]? = some p→RegOk f x p):=hide (fun hr j y q hj hy hq=>by
    rcases Nat.lt_succ_iff_lt_or_eq.1 hj with h|h
    ·exact hok.out j y q h hy hq
    ·subst h
     rw [hx.out] at hy
     rw [hp.out] at hq
     cases hy;cases hq
     exact hr)
   obtain⟨rs,hrs⟩:=Jn (Yap x.op x.ty)
   go_wp2_with (fail)
   refine(Ybj x _ _ _).mono ?_
   rintro e X1 ⟨rfl,hb1⟩
   rw [←hrs.out]
   have hk1:Below V0.heap.size V0 X1:=hbel0.trans (hb1.mono hVs)
   have hbel1:=h0W.out X1 hk1
   by_cases hr0:rs=0
   ·have e0 : (rs == 0) = true := by rw [hr0]; rfl
    have hnx:=hide (hstep.out (.inl (by rw [←hrs.out];exact hr0)))
    replace hr0:=hide hr0
    go_wp2
    go_roundw
    case rel=>exact⟨i+1,by go_num,hlt,hnx,hk1⟩
    case measure=>simp [intOf];omega
   ·have e0 : (rs == 0) = false := by rw [beq_eq_false_iff_ne]; exact hr0
    have hr0':Hid (¬Yap x.op x.ty=0):=hide (by rw [←hrs.out];exact hr0)
    replace hr0:=hide hr0
    by_cases g:(np:Int)≤x.reg∧x.reg≤4095
    case neg =>
     have hfx:Hid ((10:Int)=0↔PP):=hide ⟨fun h=>by omega,fun h=>absurd h (hno.out fun h9=>by
      rcases h9 with h9|h9
      ·exact hr0'.out h9
      ·exact g (by rw [hnp.out];exact⟨h9.1,h9.2.1⟩))⟩
     by_cases g1:(np:Int)≤x.reg
     ·have d1 : ¬ x.reg < (np : Int) := by omega
      have d1':decide (x.reg<(np:Int))=false:=decide_eq_false d1
      have d2:x.reg > 4095:=by omega
      have d2':decide (4095<x.reg)=true:=decide_eq_true d2
      go_upto_region 6 with(fail)
      go_quiet (fail)
      have hbZ:Below V0.heap.size V0 _:=Yi hk1 nq
      obtain⟨Z,hZ⟩:∃Z,Z=X1.drewN nq:=⟨_,rfl⟩
      rw [←hZ] at hbZ⊢
      have hbW:=h0W.out Z hbZ
      replace hZ:=hide hZ
      replace g:=hide g
      go_upto_region 7 with(fail)
      have hbd:=hbW.drew
      go_still_tail 11,(by kernel_rfl)
      change wpList _ _ _ _ _ Z.drew
      go_wp2_with (fail)
      refine(Zc _ _ _ _ _).mono ?_
      rintro e X9 ⟨rfl,hb9⟩
      have hk9:Below W.heap.size W X9:=hbd.trans (hb9.mono hbd.size)
      have hR9:X9.heap[R]? = _:=(hk9.block R hRW).trans hR.out
      obtain⟨z0,z1,z2,z3⟩:=Zz hR9
      obtain⟨f0,f1,f2,f3⟩:=Yj hR9
      go_wp2
      refine Yp (c:=10) (k:=(n)) (b:=pb) (i:=pj) ?_ (by rfl) hfx.out (Zs (hwX.out X9 hk9) hRw.out)
      obtain⟨y0,y1,y2,y3⟩:=Zq (u0 := .int .i64 (10)) (u1 := .int .i64 (n)) (u2 := .int .i64 (pb)) (u3 := .int .i64 (pj)) hR9
      simp [results,Tryz.results48,go_sem,y0,y1,y2,y3]
     ·have d1 : x.reg < (np : Int) := by omega
      have d1':decide (x.reg<(np:Int))=true:=decide_eq_true d1
      go_upto_region 6 with(fail)
      go_quiet (fail)
      have hbZ:Below V0.heap.size V0 _:=Yi hk1 nq
      obtain⟨Z,hZ⟩:∃Z,Z=X1.drewN nq:=⟨_,rfl⟩
      rw [←hZ] at hbZ⊢
      have hbW:=h0W.out Z hbZ
      replace hZ:=hide hZ
      replace g:=hide g
      go_upto_region 7 with(fail)
      have hbd:=hbW.drew
      go_still_tail 11,(by kernel_rfl)
      change wpList _ _ _ _ _ Z.drew
      go_wp2_with (fail)
      refine(Zc _ _ _ _ _).mono ?_
      rintro e X9 ⟨rfl,hb9⟩
      have hk9:Below W.heap.size W X9:=hbd.trans (hb9.mono hbd.size)
      have hR9:X9.heap[R]? = _:=(hk9.block R hRW).trans hR.out
      obtain⟨z0,z1,z2,z3⟩:=Zz hR9
      obtain⟨f0,f1,f2,f3⟩:=Yj hR9
      go_wp2
      refine Yp (c:=10) (k:=(n)) (b:=pb) (i:=pj) ?_ (by rfl) hfx.out (Zs (hwX.out X9 hk9) hRw.out)
      obtain⟨y0,y1,y2,y3⟩:=Zq (u0 := .int .i64 (10)) (u1 := .int .i64 (n)) (u2 := .int .i64 (pb)) (u3 := .int .i64 (pj)) hR9
      simp [results,Tryz.results48,go_sem,y0,y1,y2,y3]
    obtain⟨g1,g2⟩:=g
    have d1:¬x.reg<(np:Int):=by omega
    have d1':decide (x.reg<(np:Int))=false:=decide_eq_false d1
    have d2:¬x.reg > 4095:=by omega
    have d2':decide (4095<x.reg)=false:=decide_eq_false d2
    go_upto_region 6 with(fail)
    go_quiet (fail)
    have hbZ:Below V0.heap.size V0 _:=Yi hk1 nq
    obtain⟨Z,hZ⟩:∃Z,Z=X1.drewN nq:=⟨_,rfl⟩
    rw [←hZ] at hbZ⊢
    have hbW:=h0W.out Z hbZ
    replace hZ:=hide hZ
    have hZs:=hbZ.size
    have hselfZ:=Below.refl Z.heap.size Z
    have hZ0:∀w',Below Z.heap.size Z w'→Below V0.heap.size V0 w':=fun w' h=>hbZ.trans (h.mono hZs)
    have u1:∀w',Below Z.heap.size Z w'→w'.cell? ⟨b3,o3+i*7+1,none⟩=some (.int .i64 x.reg):=fun w' h=>x1 w' (hZ0 w' h)
    have r0:∀w',Below Z.heap.size Z w'→w'.cell? ⟨w.heap.size,0,none⟩=some (.string f.name):=fun w' h=>qq0 w' (hZ0 w' h)
    have r1:∀w',Below Z.heap.size Z w'→w'.cell? ⟨w.heap.size,1,none⟩=some (.slice A1 np k1):=fun w' h=>qq1 w' (hZ0 w' h)
    have r2:∀w',Below Z.heap.size Z w'→w'.cell? ⟨w.heap.size,2,none⟩=some (.int .i64 f.ret):=fun w' h=>qq2 w' (hZ0 w' h)
    have r3:∀w',Below Z.heap.size Z w'→w'.cell? ⟨w.heap.size,3,none⟩=some (.slice A2 N k2):=fun w' h=>qq3 w' (hZ0 w' h)
    have cD:Hid (∀w',Below Z.heap.size Z w'→Calls Tryz.prog 94 #[f.v (.slice A1 np k1) (.slice A2 N k2), .int .i64 x.reg] w' (DefPost f x.reg w')):=hide (fun w' h=>hDe.out x.reg w' (h0W.out w' (hZ0 w' h)))
    replace hZ0:=hide hZ0
    go_upto_region 8 with(fail)
    go_cut [8,9] (fun s8 s9 wx=>∃(g di dj:Nat) (fd:Bool),s8 = .pointer (some ⟨g,0,none⟩)∧s9 = .bool fd∧wx.heap[g]? = some (.cells #[.int .i64 0, .int .i64 di, .int .i64 dj] 48 (0,0))∧(fd=true→IsDef f.blocks x.reg di dj)∧(fd=false→di=0∧dj=0∧noDef f.blocks.flatten x.reg)∧Z.heap.size≤g∧Below Z.heap.size Z wx)
    case first =>
     have hza:Below Z.heap.size Z ((Z.alloc (.cells #[.int .i64 0, .int .i64 0, .int .i64 0] 48)).drew):=(hselfZ.alloc (Nat.le_refl _) _).drew
     have hzd:=hselfZ.drew
     go_region_held3 (fun w' => Below Z.heap.size Z w') (first | (with_reducible assumption) | ((repeat' with_reducible (first | assumption | exact hzd | exact hza | exact Nat.le_refl _ | refine Below.drew ?_ | refine Below.setCell ?_ ?_ _ | refine Below.alloc ?_ ?_ _)) <;> (first | assumption | omega | (simp; omega) | simp)))
      (first
      | (go_at_call 94
         refine(cD.out _ (by first|with_reducible assumption|exact hselfZ.drew|exact hselfZ.drew.alloc hselfZ.drew.size _|exact(hselfZ.alloc hselfZ.size _).drew)).mono ?_
         rintro e X5 ⟨di,dj,fd,rfl,hb5,hd1,hd2⟩
         replace hd1:=hide hd1
         replace hd2:=hide hd2
         have hb5Z:Below Z.heap.size Z X5:=(by first|exact hselfZ.drew.trans (hb5.mono (Nat.le_refl _))|exact((hselfZ.alloc (Nat.le_refl _) _).drew).trans (hb5.mono (by show Z.heap.size≤(Z.alloc _).heap.size;simp)))
         have hs5:=hb5Z.size
         first
          | (have hq6 : X5.heap[Z.heap.size]? = some (.cells #[.int .i64 0, .int .i64 0, .int .i64 0] 48 (0, 0)) := (hb5.block Z.heap.size (by show Z.heap.size < (Z.alloc _).heap.size; simp)).trans (Yu Z _)
             obtain⟨a0,a1,a2⟩:=Q2 hq6
             have l0:=Ym (j:=0) hq6
             have l1:=Ym (j:=1) hq6
             have l2:=Ym (j:=2) hq6
             replace hq6:=hide hq6
             clear hb5)
          | (clear hb5)))
     all_goals go_wp2_with (fail)
     all_goals go_meet
     all_goals refine⟨_,di,dj,fd,rfl,rfl,?_,hd1.out,hd2.out,?_,?_⟩
     all_goals first
      | exact Yu _ _
      | exact Yr (j:=2) (Yr (j:=1) (Yr (j:=0) hq6.out))
      | exact Nat.le_refl _
      | exact hs5
      | (repeat' with_reducible (first|assumption|exact Nat.le_refl _|refine Below.drew ?_|refine Below.setCell ?_ ?_ _|refine Below.alloc ?_ ?_ _))
    case rest =>
     obtain⟨g,di,dj,fd,rfl,rfl,hgc,hd1,hd2,hgz,hbY⟩:=hcut
     obtain⟨Y,hY⟩:∃Y:World,Y=wc:=⟨_,rfl⟩
     have hbY0:=hbZ.trans (hbY.mono hZs)
     have hbYW:=h0W.out _ hbY0
     have hgl:g<wc.heap.size:=(Array.getElem?_eq_some_iff.1 hgc).1
     have k0:∀w',Below wc.heap.size wc w'→w'.cell? ⟨g,0,none⟩=some (.int .i64 0):=fun w' h=>(h.cell (p:=⟨g,0,none⟩) hgl).trans (Q2 hgc).1
     have k1':∀w',Below wc.heap.size wc w'→w'.cell? ⟨g,1,none⟩=some (.int .i64 di):=fun w' h=>(h.cell (p:=⟨g,1,none⟩) hgl).trans (Q2 hgc).2.1
     have k2':∀w',Below wc.heap.size wc w'→w'.cell? ⟨g,2,none⟩=some (.int .i64 dj):=fun w' h=>(h.cell (p:=⟨g,2,none⟩) hgl).trans (Q2 hgc).2.2
     have hselfY:=Below.refl wc.heap.size wc
     have hdx:defs x x.reg=true:=by
      unfold defs
      simp [hr0'.out]
     have hfd:fd=true:=by
      cases fd with
      | true=>rfl
      | false =>
       have h9:=(hd2 rfl).2.2 x (by rw [←hll.out];exact Jm hx.out)
       rw [hdx] at h9
       cases h9
     have hdef:=hd1 hfd
     by_cases hq:di=pb∧dj=pj
     ·obtain ⟨rfl, rfl⟩ := hq
      have hnx:=hide (hstep.out (.inr ⟨by rw [←hnp.out];exact g1,g2,di,dj,rfl,hdef⟩))
      refine hd7 hdx hdef hd1 hd2 hfd hgc hY ?_;clear hdx hdef hd1 hd2 hfd hgc hY;intro hdx hdef hd1 hd2 hfd hgc hY
      go_upto_region 9 with(fail)
      go_quiet (fail)
      have hbQ:Below V0.heap.size V0 _:=Yi hbY0 nq
      go_wp2
      go_roundw
      case rel=>exact⟨i+1,by go_num,hlt,hnx,hbQ⟩
      case measure=>simp [intOf];omega
     ·have hfx:Hid ((5:Int)=0↔PP):=hide ⟨fun h=>by omega,fun h=>absurd h (hno.out fun h9=>by
       rcases h9 with h9|⟨-, -,b,j,hbj,h9⟩
       ·exact hr0'.out h9
       ·have e1 := isDef_one hdef h9
        have e2:(pb:Int)=b∧(pj:Int)=j:=by cases hbj;exact⟨rfl,rfl⟩
        exact hq (by omega))⟩
      refine hd7 hdx hdef hd1 hd2 hfd hgc hY ?_;clear hdx hdef hd1 hd2 hfd hgc hY;intro hdx hdef hd1 hd2 hfd hgc hY
      by_cases hq1:di=pb
      ·subst hq1
       have hq2:dj≠pj:=fun e=>hq ⟨rfl,e⟩
       have n1:((dj:Int)==(pj:Int))=false:=by rw [beq_eq_false_iff_ne];omega
       have n2:(dj==pj)=false:=by rw [beq_eq_false_iff_ne];exact hq2
       replace hq:=hide hq
       go_upto_region 9 with(fail)
       go_quiet (fail)
       have hbQ:Below V0.heap.size V0 _:=Yi hbY0 nq
       obtain⟨Q,hQ⟩:∃Q,Q=wc.drewN nq:=⟨_,rfl⟩
       rw [←hQ] at hbQ⊢
       have hbQW:=h0W.out Q hbQ
       replace hQ:=hide hQ
       replace hq2:=hide hq2
       go_upto_region 10 with(fail)
       have hbd:=hbQW.drew
       go_still_tail 11,(by kernel_rfl)
       change wpList _ _ _ _ _ Q.drew
       go_wp2_with (fail)
       refine(Zc _ _ _ _ _).mono ?_
       rintro e X9 ⟨rfl,hb9⟩
       have hk9:Below W.heap.size W X9:=hbd.trans (hb9.mono hbd.size)
       have hR9:X9.heap[R]? = _:=(hk9.block R hRW).trans hR.out
       obtain⟨z0,z1,z2,z3⟩:=Zz hR9
       obtain⟨f0,f1,f2,f3⟩:=Yj hR9
       go_wp2
       refine Yp (c:=5) (k:=(n)) (b:=di) (i:=pj) ?_ (by rfl) hfx.out (Zs (hwX.out X9 hk9) hRw.out)
       obtain⟨y0,y1,y2,y3⟩:=Zq (u0 := .int .i64 (5)) (u1 := .int .i64 (n)) (u2 := .int .i64 (di)) (u3 := .int .i64 (pj)) hR9
       simp [results,Tryz.results48,go_sem,y0,y1,y2,y3]
      ·have n1 : ((di : Int) == (pb : Int)) = false := by rw [beq_eq_false_iff_ne]; omega
       have n2:(di==pb)=false:=by rw [beq_eq_false_iff_ne];exact hq1
       replace hq:=hide hq
       go_upto_region 9 with(fail)
       go_quiet (fail)
       have hbQ:Below V0.heap.size V0 _:=Yi hbY0 nq
       obtain⟨Q,hQ⟩:∃Q,Q=wc.drewN nq:=⟨_,rfl⟩
       rw [←hQ] at hbQ⊢
       have hbQW:=h0W.out Q hbQ
       replace hQ:=hide hQ
       replace hq1:=hide hq1
       go_upto_region 10 with(fail)
       have hbd:=hbQW.drew
       go_still_tail 11,(by kernel_rfl)
       change wpList _ _ _ _ _ Q.drew
       go_wp2_with (fail)
       refine(Zc _ _ _ _ _).mono ?_
       rintro e X9 ⟨rfl,hb9⟩
       have hk9:Below W.heap.size W X9:=hbd.trans (hb9.mono hbd.size)
       have hR9:X9.heap[R]? = _:=(hk9.block R hRW).trans hR.out
       obtain⟨z0,z1,z2,z3⟩:=Zz hR9
       obtain⟨f0,f1,f2,f3⟩:=Yj hR9
       go_wp2
       refine Yp (c:=5) (k:=(n)) (b:=pb) (i:=pj) ?_ (by rfl) hfx.out (Zs (hwX.out X9 hk9) hRw.out)
       obtain⟨y0,y1,y2,y3⟩:=Zq (u0 := .int .i64 (5)) (u1 := .int .i64 (n)) (u2 := .int .i64 (pb)) (u3 := .int .i64 (pj)) hR9
       simp [results,Tryz.results48,go_sem,y0,y1,y2,y3]
  ·have hfx : Hid PP := hide (by rw [hPP.out]; exact fun j x p hx hp => hok.out j x p (by have := (Js.1 hx).1; have := hnl.out; omega) hx hp)
   have hR9:V.heap[R]? = _:=(hbel.block R hRW).trans hR.out
   obtain⟨z0,z1,z2,z3⟩:=Zz hR9
   obtain⟨f0,f1,f2,f3⟩:=Yj hR9
   go_wp2
   refine Yp (c:=0) (k:=(0)) (b:=0) (i:=0) ?_ (by rfl) ⟨fun _=>hfx.out,fun _=>rfl⟩ (Zs (hwX.out V hbel) hRw.out)
   obtain⟨y0,y1,y2,y3⟩:=Zq (u0 := .int .i64 (0)) (u1 := .int .i64 (0)) (u2 := .int .i64 (0)) (u3 := .int .i64 (0)) hR9
   simp [results,Tryz.results48,go_sem,y0,y1,y2,y3]
def typeS (f:Fun) (reg:Int):Int :=
 if reg<0 then 0 else if reg<f.params.length then f.params.getD reg.toNat 0 else match f.blocks.flatten.find? (fun x=>defs x reg) with|some x=>Yap x.op x.ty|none=>0
theorem find_none {l:List Ins} {r:Int} (h:noDef l r):l.find? (fun x=>defs x r)=none:=by
 rw [List.find?_eq_none]
 intro x hx
 rw [h x hx];simp
theorem find_def {bs:List (List Ins)} {r:Int} {i j:Nat} {x:List Ins} {ins:Ins} (hx:bs[i]? = some x) (hi:x[j]? = some ins) (hd:IsDef bs r i j):bs.flatten.find? (fun x=>defs x r)=some ins:=by
 obtain⟨x',ins',h1,h2,h3,h4⟩:=hd
 rw [hx] at h1
 cases h1
 rw [hi] at h2
 cases h2
 obtain⟨q,hq⟩ := @before_prefix bs i (j+1)
 rw [before_step hx hi] at hq
 rw [←hq,List.append_assoc,List.find?_append,find_none h4]
 simp [h3]
theorem type08_any (f : Fun) (reg : Int) (c1 c2 : Value) (w : World) (B : Nat) (hB : B ≤ w.heap.size) (hf : RFun.rep w B [.string f.name, c1, .int .i64 f.ret, c2] f) (hsz : Ybo f ≤ 2000000) :
  Calls Tryz.prog 122 #[f.v c1 c2, .int .i64 reg] w fun e w'=>e = .returned (.int .i64 (typeS f reg))∧Below w.heap.size w w':=by
 have hs:Zo f:=Ybu hsz
 obtain⟨ans,hans⟩:=Jn (typeS f reg)
 rw [←hans.out]
 obtain⟨hp,hb⟩:=Yk (RFun.later hf (Below.refl _ _) hB)
 obtain⟨A1,k1,h1,hm1,gp⟩:=Rp.slice1_open hp
 obtain⟨A2,k2,h2,hm2,gb⟩:=Rp.slice1_open hb
 cases h1;cases h2
 replace gp:=hide gp
 replace gb:=hide gb
 clear hp hb
 obtain⟨N,hN⟩:=Jn (f.blocks.length)
 obtain⟨np,hnp⟩:=Jn (f.params.length)
 have hNle:N≤2000000:=by rw [hN.out];exact hs.blocks
 rw [←hN.out,←hnp.out] at hf⊢
 rw [←hN.out] at hm2
 rw [←hnp.out] at hm1
 obtain⟨W,hW,hwW,hWs,hx⟩:=Y6 w #[.string f.name, .slice A1 np k1, .int .i64 f.ret, .slice A2 N k2] 32
 have q0:∀w',Below W.heap.size W w'→w'.cell? ⟨w.heap.size,0,none⟩=some (.string f.name):=hx 0 _ rfl
 have q1:∀w',Below W.heap.size W w'→w'.cell? ⟨w.heap.size,1,none⟩=some (.slice A1 np k1):=hx 1 _ rfl
 have q2:∀w',Below W.heap.size W w'→w'.cell? ⟨w.heap.size,2,none⟩=some (.int .i64 f.ret):=hx 2 _ rfl
 have q3:∀w',Below W.heap.size W w'→w'.cell? ⟨w.heap.size,3,none⟩=some (.slice A2 N k2):=hx 3 _ rfl
 clear hx
 have hws:w.heap.size≤W.heap.size:=by omega
 have hwX:Hid (∀w',Below W.heap.size W w'→Below w.heap.size w w'):=hide (fun w' h=>hwW.trans (h.mono hws))
 have hF:Hid (∀w',Below W.heap.size W w'→RFun.rep w' w'.heap.size [.string f.name, .slice A1 np k1, .int .i64 f.ret, .slice A2 N k2] f):=hide (fun w' h=>RFun.later hf ((hwX.out w' h).mono hB) (Nat.le_trans hB (hwX.out w' h).size))
 have hzb:Hid (∀x,x∈f.blocks→x.length≤2000000):=hide (fun x hx=>(hs.code x hx).1)
 refine hd3 hs hf hWs ?_;clear hs hf hWs;intro hs hf hWs
 have hself:=Below.refl W.heap.size W
 replace hW:=hide hW
 replace hwW:=hide hwW
 have hDe:Hid (∀(r:Int) w',Below W.heap.size W w'→Calls Tryz.prog 94 #[f.v (.slice A1 np k1) (.slice A2 N k2), .int .i64 r] w' (DefPost f r w')):=hide (fun r w' h=>rdef_any f r _ _ w' w'.heap.size (Nat.le_refl _) (Yk (hF.out w' h)).1 (Yk (hF.out w' h)).2 (by have:=parts_flat f;omega))
 go_enter Tryz.func122,Tryz.ntmps122
 go_upto_region 1 with(fail)
 rw [hW.out]
 clear hW
 by_cases h0:reg<0
 ·have hfx : Hid (Ending.returned (.int .i64 0) = .returned (.int .i64 ans) ∧ Below w.heap.size w W) := hide ⟨by rw [hans.out, typeS, if_pos h0], hwX.out W hself⟩
  go_wp2
  go_ret
  exact hfx.out
 ·by_cases h1 : reg < (np : Int)
  ·obtain ⟨k, rfl⟩ := Int.eq_ofNat_of_zero_le (show 0 ≤ reg by omega)
   have hki:k<np:=by omega
   obtain⟨t,ht⟩:=Yf (l:=f.params) (k:=k) (by rw [←hnp.out];exact hki)
   obtain⟨b1,o1,hA1,he⟩:=gp.out (by rw [←hnp.out];omega)
   subst hA1
   obtain⟨c,hc,r1⟩:=he k t ht.out
   have hc:=hc.1
   cases hc
   have r1:=r1 W (hwX.out W hself)
   clear he
   have hfx:Hid (Ending.returned (.int .i64 t) = .returned (.int .i64 ans)∧Below w.heap.size w W):=hide ⟨by rw [hans.out,typeS,if_neg h0,if_pos (by rw [←hnp.out];exact h1),Int.toNat_natCast,Jq,ht.out];rfl,hwX.out W hself⟩
   go_wp2
   go_ret
   exact hfx.out
  ·have hA : Hid (ans = match f.blocks.flatten.find? (fun x => defs x reg) with | some x => Yap x.op x.ty | none => 0) := hide (by rw [hans.out, typeS, if_neg h0, if_neg (by rw [← hnp.out]; exact h1)])
   go_wp2_with (fail)
   refine(hDe.out reg _ hself).mono ?_
   rintro e X ⟨di,dj,fd,rfl,hb,hd1,hd2⟩
   have hbW:=hwX.out X hb
   cases fd with
   | false =>
    have hfx:Hid (∀Y,Below X.heap.size X Y→Ending.returned (.int .i64 0) = .returned (.int .i64 ans)∧Below w.heap.size w Y):=hide (fun Y hY=>⟨by rw [hA.out,find_none (hd2 rfl).2.2],hbW.trans (hY.mono hbW.size)⟩)
    have hal:=(Below.refl X.heap.size X).alloc (Nat.le_refl _) (.cells #[.int .i64 0, .int .i64 di, .int .i64 dj] 48)
    replace hd1:=hide hd1
    replace hd2:=hide hd2
    go_wp2
    go_ret
    exact hfx.out _ hal
   | true =>
    obtain⟨x,ins,hx,hi,hdf, -⟩:=hd1 rfl
    have hfind:=find_def hx hi (hd1 rfl)
    have hil:=(Js.1 hx).1
    have hjl:=(Js.1 hi).1
    have hdN:di<N:=by rw [hN.out];exact hil
    have hdi:(di:Int)<(N:Int):=by omega
    obtain⟨b1,o1,hA2,he1⟩:=gb.out (by omega)
    subst hA2
    obtain⟨d1,hr1,hdd⟩:=he1 di x hx
    obtain⟨A5,c5,h5,hm5,ga⟩:=Rp.slice_open hr1
    cases h5
    obtain⟨lx,hlx⟩:=Jn (x.length)
    have hdj:(dj:Int)<(lx:Int):=by have:=hlx.out;omega
    have hdjn:dj<lx:=by have:=hlx.out;omega
    rw [←hlx.out] at hm5
    obtain⟨b3,o3,hA5,he3⟩:=ga (by omega)
    subst hA5
    obtain⟨_,_,⟨a1',a2',rfl,hra,hrt, -⟩,hcx⟩:=he3 dj ins hi
    obtain⟨A6,k6,h6,hm6, -⟩:=Rp.slice_open hra
    obtain⟨A7,k7,h7,hm7, -⟩:=Rp.slice1_open hrt
    cases h6;cases h7
    obtain⟨x0,x1,x2,x3,x4,x5,x6⟩:=hcx.seven
    obtain⟨Z,hZ,hwZ,hZs,hzc⟩:=Y6 X #[.int .i64 0, .int .i64 di, .int .i64 dj] 48
    have y1:=hzc 1 _ rfl
    have y2:=hzc 2 _ rfl
    have hbZ:Below w.heap.size w Z:=hbW.trans (hwZ.mono hbW.size)
    have hZw:∀w',Below Z.heap.size Z w'→Below w.heap.size w w':=fun w' h=>hbZ.trans (h.mono hbZ.size)
    have hZW:∀w',Below Z.heap.size Z w'→Below W.heap.size W w':=fun w' h=>(hb.trans (hwZ.mono hb.size)).trans (h.mono (hb.trans (hwZ.mono hb.size)).size)
    have hdd:∀w',Below Z.heap.size Z w'→w'.cell? ⟨b1,o1+di,none⟩=some (.slice (some ⟨b3,o3,none⟩) lx c5):=fun w' h=>by rw [hlx.out];exact hdd w' (hZw w' h)
    have u0:∀w',Below Z.heap.size Z w'→w'.cell? ⟨b3,o3+dj*7,none⟩=some (.int .i64 ins.op):=fun w' h=>x0 w' (hZw w' h)
    have u1:∀w',Below Z.heap.size Z w'→w'.cell? ⟨b3,o3+dj*7+1,none⟩=some (.int .i64 ins.reg):=fun w' h=>x1 w' (hZw w' h)
    have u2:∀w',Below Z.heap.size Z w'→w'.cell? ⟨b3,o3+dj*7+2,none⟩=some (.int .i64 ins.ty):=fun w' h=>x2 w' (hZw w' h)
    have u3:∀w',Below Z.heap.size Z w'→w'.cell? ⟨b3,o3+dj*7+3,none⟩=some (.int .i64 ins.num):=fun w' h=>x3 w' (hZw w' h)
    have u4:∀w',Below Z.heap.size Z w'→w'.cell? ⟨b3,o3+dj*7+4,none⟩=some (.int .i64 ins.flags):=fun w' h=>x4 w' (hZw w' h)
    have u5:∀w',Below Z.heap.size Z w'→w'.cell? ⟨b3,o3+dj*7+5,none⟩=some (.slice A6 ins.args.length k6):=fun w' h=>x5 w' (hZw w' h)
    have u6:∀w',Below Z.heap.size Z w'→w'.cell? ⟨b3,o3+dj*7+6,none⟩=some (.slice A7 ins.to.length k7):=fun w' h=>x6 w' (hZw w' h)
    have r3:∀w',Below Z.heap.size Z w'→w'.cell? ⟨w.heap.size,3,none⟩=some (.slice (some ⟨b1,o1,none⟩) N k2):=fun w' h=>q3 w' (hZW w' h)
    have cR:Hid (∀w',Calls Tryz.prog 93 #[ins.v (.slice A6 ins.args.length k6) (.slice A7 ins.to.length k7)] w' fun e w''=>e = .returned (.int .i64 (Yap ins.op ins.ty))∧Below w'.heap.size w' w''):=hide (fun w'=>Ybj ins _ _ w')
    have hfx:Hid (∀Y,Below Z.heap.size Z Y→Ending.returned (.int .i64 (Yap ins.op ins.ty)) = .returned (.int .i64 ans)∧Below w.heap.size w Y):=hide (fun Y hY=>⟨by rw [hA.out,hfind],hZw Y hY⟩)
    have hselfZ:=Below.refl Z.heap.size Z
    have hzd:=hselfZ.drew
    refine hd11 hd1 hd2 hx hi hdf hfind hwZ hZs hZ hZw hZW ?_;clear hd1 hd2 hx hi hdf hfind hwZ hZs hZ hZw hZW;intro hd1 hd2 hx hi hdf hfind hwZ hZs hZ hZw hZW
    clear he1 he3 hcx hra hrt hr1 hzc x0 x1 x2 x3 x4 x5 x6 ga q0 q1 q2 q3 hil hjl
    go_upto_region 8 with(fail)
    rw [hZ.out]
    go_region_held3 (fun w' => Below Z.heap.size Z w') (first | (with_reducible assumption) | exact hzd)
     (first
      | (go_at_call 93;refine(cR.out _).mono ?_;rintro e X5 ⟨rfl,hb5⟩;have hk5:Below Z.heap.size Z X5:=hzd.trans (hb5.mono (Nat.le_refl _));clear hb5))
    go_wp2
    go_ret
    exact hfx.out _ hk5
def wantedS (m:Mod) (x:Ins) (k:Nat):Int :=
 if convB x.op=true then x.num else if x.op=23∧k=0∨x.op=32 then 1 else if x.op=27∨x.op=28∧k=1∨x.op=29∧k=0 then 65 else if x.op=29 then 64 else if x.op=30 then(Zu m x.num).1.getD k 0 else x.ty
theorem wanted_any (m : Mod) (x : Ins) (k : Nat) (M1 M2 M3 A5 A6 : Option Addr) (v1 v2 v3 j1 j2 j3 na nt k5 k6 : Nat) (w : World) (B : Nat) (hB : B ≤ w.heap.size) (ha : RMod.rep w B [.slice M1 v1 j1, .slice M2 v2 j2, .slice M3 v3 j3] m) (hn : -9223372036854775808 ≤ x.num ∧ x.num ≤ 9223372036854775807) (hk : x.op = 30 → k < (Zu m x.num).1.length) :
  Calls Tryz.prog 96 #[m.v (.slice M1 v1 j1) (.slice M2 v2 j2) (.slice M3 v3 j3),x.v (.slice A5 na k5) (.slice A6 nt k6), .int .i64 k] w fun e w'=>e = .returned (.int .i64 (wantedS m x k))∧Below w.heap.size w w':=by
 obtain⟨ans,hans⟩:=Jn (wantedS m x k)
 rw [←hans.out]
 obtain⟨W,hW,hwW,hWs,hx,hy⟩:=Ql w #[.slice M1 v1 j1, .slice M2 v2 j2, .slice M3 v3 j3] #[.int .i64 x.op, .int .i64 x.reg, .int .i64 x.ty, .int .i64 x.num, .int .i64 x.flags, .slice A5 na k5, .slice A6 nt k6] 26 44
 have p0:∀w',Below W.heap.size W w'→w'.cell? ⟨w.heap.size,0,none⟩=some (.slice M1 v1 j1):=hx 0 _ rfl
 have p1:∀w',Below W.heap.size W w'→w'.cell? ⟨w.heap.size,1,none⟩=some (.slice M2 v2 j2):=hx 1 _ rfl
 have p2:∀w',Below W.heap.size W w'→w'.cell? ⟨w.heap.size,2,none⟩=some (.slice M3 v3 j3):=hx 2 _ rfl
 have y0:∀w',Below W.heap.size W w'→w'.cell? ⟨w.heap.size+1,0,none⟩=some (.int .i64 x.op):=hy 0 _ rfl
 have y2:∀w',Below W.heap.size W w'→w'.cell? ⟨w.heap.size+1,2,none⟩=some (.int .i64 x.ty):=hy 2 _ rfl
 have y3:∀w',Below W.heap.size W w'→w'.cell? ⟨w.heap.size+1,3,none⟩=some (.int .i64 x.num):=hy 3 _ rfl
 clear hx hy
 have hself:=Below.refl W.heap.size W
 have hws:w.heap.size≤W.heap.size:=by omega
 refine hd3 hWs hW hwW ?_;clear hWs hW hwW;intro hWs hW hwW
 have cC:Hid (∀w',Below W.heap.size W w'→Calls Tryz.prog 121 #[m.v (.slice M1 v1 j1) (.slice M2 v2 j2) (.slice M3 v3 j3), .int .i64 x.num] w' (Ybp m x.num w'.heap.size w')):=hide (fun w' h=>rcallee_any m x.num _ _ _ w' w'.heap.size (Nat.le_refl _) (RMod.later ha ((hwW.out.trans (h.mono hws)).mono hB) (Nat.le_trans hB (hwW.out.trans (h.mono hws)).size)) hn)
 obtain⟨cb,hcb⟩:∃cb,Hid (convB x.op=cb):=⟨_,hide rfl⟩
 refine hd3 hn ha hk ?_;clear hn ha hk;intro hn ha hk
 go_enter Tryz.func96,Tryz.ntmps96
 go_upto_region 1 with(fail)
 rw [hW.out]
 clear hW
 go_wp2_with (fail)
 refine(Yb2 x.op _).mono ?_
 rintro e w9 ⟨rfl,hw9⟩
 subst hw9
 rw [hcb.out]
 rename World=>V
 have z0:=y0 V hself
 have z2:=y2 V hself
 have z3:=y3 V hself
 cases cb with
 | true =>
  have hfx:Hid (Ending.returned (.int .i64 x.num) = .returned (.int .i64 ans)∧Below w.heap.size w V):=hide ⟨by rw [hans.out,wantedS,if_pos hcb.out],hwW.out⟩
  go_wp2
  go_ret
  exact hfx.out
 | false =>
  have hA:Hid (ans=if x.op=23∧k=0∨x.op=32 then 1 else if x.op=27∨x.op=28∧k=1∨x.op=29∧k=0 then 65 else if x.op=29 then 64 else if x.op=30 then(Zu m x.num).1.getD k 0 else x.ty):=hide (by rw [hans.out,wantedS,if_neg (by rw [hcb.out];simp)])
  by_cases h30:x.op=30
  ·have hA2 : Hid (ans = (Zu m x.num).1.getD k 0) := hide (by rw [hA.out, if_neg (by omega), if_neg (by omega), if_neg (by omega), if_pos h30])
   have hk':=hk.out h30
   rw [h30] at z0
   unfold Ybp at cC
   obtain⟨pr,hpr⟩:∃pr,Hid ((Zu m x.num).1=pr):=⟨_,hide rfl⟩
   obtain⟨rt,hrt⟩:∃rt,Hid ((Zu m x.num).2.1=rt):=⟨_,hide rfl⟩
   obtain⟨ok,hok⟩:∃ok,Hid ((Zu m x.num).2.2=ok):=⟨_,hide rfl⟩
   rw [hpr.out,hrt.out,hok.out] at cC
   rw [hpr.out] at hA2 hk'
   replace h30:=hide h30
   clear y0
   have y0:∀w',Below V.heap.size V w'→w'.cell? ⟨w.heap.size+1,0,none⟩=some (.int .i64 30):=fun w' h=>(h.cell (p:=⟨w.heap.size+1,0,none⟩) (by show w.heap.size+1<V.heap.size;have:=hWs.out;omega)).trans z0
   obtain⟨lp,hlp⟩:=Jn (pr.length)
   rw [←hlp.out] at hk'
   have hki:(k:Int)<(lp:Int):=by omega
   go_wp2_with (fail)
   refine(cC.out _ hself).mono ?_
   rintro e X ⟨v,rfl,hrv,hbX⟩
   obtain⟨Ap,Cp,hv,hmp,gq⟩:=Rp.slice1_open hrv
   cases hv
   obtain⟨t,ht⟩:=Yf (l:=pr) (k:=k) (by rw [←hlp.out];exact hk')
   rw [←hlp.out] at hmp gq⊢
   obtain⟨b1,o1,hAp,he⟩:=gq (by omega)
   subst hAp
   obtain⟨c,hc,r1⟩:=he k t ht.out
   have hc:=hc.1
   cases hc
   have r1:=r1 X (Below.refl _ _)
   have hfx:Hid (Ending.returned (.int .i64 t) = .returned (.int .i64 ans)∧Below w.heap.size w X):=hide ⟨by rw [hA2.out,Jq,ht.out];rfl,hwW.out.trans (hbX.mono hws)⟩
   replace hrv:=hide hrv
   clear he gq
   go_wp2
   go_ret
   exact hfx.out
  ·have b30 : (x.op == 30) = false := by rw [beq_eq_false_iff_ne]; exact h30
   have hA2:Hid (ans=if x.op=23∧k=0∨x.op=32 then 1 else if x.op=27∨x.op=28∧k=1∨x.op=29∧k=0 then 65 else if x.op=29 then 64 else x.ty):=hide (by rw [hA.out,if_neg h30])
   obtain⟨op,hop⟩:=Jn (x.op)
   obtain⟨ty,hty⟩:=Jn (x.ty)
   rw [←hop.out] at z0 b30
   rw [←hty.out] at z2
   have hA3:Hid (ans=if op=23∧k=0∨op=32 then 1 else if op=27∨op=28∧k=1∨op=29∧k=0 then 65 else if op=29 then 64 else ty):=hide (by rw [hA2.out,hop.out,hty.out])
   replace h30:=hide h30
   clear y0 y2 y3 p0 p1 p2 hself cC hA hA2
   go_wp2
   all_goals go_ret
   all_goals refine⟨Ybk ?_,hwW.out⟩
   all_goals
    rw [hA3.out]
    clear hA3 hans hop hty hcb hwW hWs z0 z2 z3 ha hn h30 hk
    try simp at *
    try ((repeat' split)<;>first|rfl|omega|(exfalso;omega))
def OpdOk (m:Mod) (f:Fun) (v:Opd) (want:Int):Prop :=
 if v.kind=1 then v.bits=0∧v.num≤4095∧typeS f v.num≠0∧typeS f v.num=want
 else if v.kind=2 then v.num=0∧want≠65∧v.bits≤maskS want
 else if v.kind=3∨v.kind=4 then v.num=0∧v.bits=0∧(v.kind=4→want=65)
 else if v.kind=5 then v.bits=0∧0≤v.num∧v.num<(m.vars.length:Int)∧want=65 else False
theorem operand_any (m : Mod) (f : Fun) (v : Opd) (want : Int) (M1 M2 M3 A1 A2 : Option Addr) (v1 v2 v3 j1 j2 j3 np k1 N k2 : Nat) (w : World) (B : Nat) (hB : B ≤ w.heap.size) (hv1 : v1 = m.vars.length) (hf : RFun.rep w B [.string f.name, .slice A1 np k1, .int .i64 f.ret, .slice A2 N k2] f) (hsz : Ybo f ≤ 2000000) :
  Calls Tryz.prog 95 #[m.v (.slice M1 v1 j1) (.slice M2 v2 j2) (.slice M3 v3 j3),f.v (.slice A1 np k1) (.slice A2 N k2), .agg #[.int .i64 v.kind, .int .i64 v.num, .int .u64 v.bits], .int .i64 want] w (Yz (OpdOk m f v want) w):=by
 obtain⟨TT,hTT⟩:∃TT:Prop,Hid (TT=OpdOk m f v want):=⟨_,hide rfl⟩
 rw [←hTT.out]
 obtain⟨W,hW,hwW,hWs,hx,hy,hz⟩:=boxes3 w #[.slice M1 v1 j1, .slice M2 v2 j2, .slice M3 v3 j3] #[.string f.name, .slice A1 np k1, .int .i64 f.ret, .slice A2 N k2] #[.int .i64 v.kind, .int .i64 v.num, .int .u64 v.bits] 26 32 62
 have p0:∀w',Below W.heap.size W w'→w'.cell? ⟨w.heap.size,0,none⟩=some (.slice M1 v1 j1):=hx 0 _ rfl
 have q0:∀w',Below W.heap.size W w'→w'.cell? ⟨w.heap.size+1,0,none⟩=some (.string f.name):=hy 0 _ rfl
 have q1:∀w',Below W.heap.size W w'→w'.cell? ⟨w.heap.size+1,1,none⟩=some (.slice A1 np k1):=hy 1 _ rfl
 have q2:∀w',Below W.heap.size W w'→w'.cell? ⟨w.heap.size+1,2,none⟩=some (.int .i64 f.ret):=hy 2 _ rfl
 have q3:∀w',Below W.heap.size W w'→w'.cell? ⟨w.heap.size+1,3,none⟩=some (.slice A2 N k2):=hy 3 _ rfl
 have y0:∀w',Below W.heap.size W w'→w'.cell? ⟨w.heap.size+1+1,0,none⟩=some (.int .i64 v.kind):=hz 0 _ rfl
 have y1:∀w',Below W.heap.size W w'→w'.cell? ⟨w.heap.size+1+1,1,none⟩=some (.int .i64 v.num):=hz 1 _ rfl
 have y2:∀w',Below W.heap.size W w'→w'.cell? ⟨w.heap.size+1+1,2,none⟩=some (.int .u64 v.bits):=hz 2 _ rfl
 clear hx hy hz
 have hself:=Below.refl W.heap.size W
 have hws:w.heap.size≤W.heap.size:=by omega
 refine hd3 hWs hW hwW ?_;clear hWs hW hwW;intro hWs hW hwW
 have cT:Hid (∀w',Below W.heap.size W w'→Calls Tryz.prog 122 #[f.v (.slice A1 np k1) (.slice A2 N k2), .int .i64 v.num] w' fun e w''=>e = .returned (.int .i64 (typeS f v.num))∧Below w'.heap.size w' w''):=hide (fun w' h=>type08_any f v.num _ _ w' w'.heap.size (Nat.le_refl _) (RFun.later hf ((hwW.out.trans (h.mono hws)).mono hB) (Nat.le_trans hB (hwW.out.trans (h.mono hws)).size)) hsz)
 have cM:Hid (∀w',Calls Tryz.prog 123 #[.int .i64 want] w' fun e w''=>e = .returned (.int .u64 (maskS want))∧w'=w''):=hide (fun w'=>rmask8_any want w')
 replace hf:=hide hf
 have hfin:=hwW
 have hvv:=hide hv1
 clear hv1
 have hwfin:Hid (∀w',Below W.heap.size W w'→Below w.heap.size w w'):=hide (fun w' h=>hwW.out.trans (h.mono hws))
 go_enter Tryz.func95,Tryz.ntmps95
 go_upto_region 1 with(fail)
 rw [hW.out]
 clear hW
 by_cases h1:v.kind=1
 ·have hT : Hid (TT ↔ v.bits = 0 ∧ v.num ≤ 4095 ∧ typeS f v.num ≠ 0 ∧ typeS f v.num = want) := hide (by rw [hTT.out, OpdOk, if_pos h1])
  have b1:(v.kind==1)=true:=by rw [h1];rfl
  replace h1:=hide h1
  by_cases g0:v.bits=0
  ·have e0 : (v.bits != 0) = false := by rw [g0]; rfl
   by_cases g1:v.num≤4095
   ·obtain ⟨t, ht⟩ : ∃ t, Hid (typeS f v.num = t) := ⟨_, hide rfl⟩
    rw [ht.out] at cT hT
    go_wp2_with (fail)
    refine(cT.out _ hself).mono ?_
    rintro e X ⟨rfl,hbX⟩
    have hfin:=hide (hwfin.out X hbX)
    by_cases g2:t=0
    ·have e2 : (t == 0) = true := by rw [g2]; rfl
     have hfx:Hid (Yz TT w (.returned (.int .i64 10)) X):=hide ⟨10,rfl,⟨fun h=>by omega,fun h=>absurd g2 (hT.out.1 h).2.2.1⟩,hfin.out⟩
     replace g2:=hide g2
     replace g0:=hide g0
     go_wp2
     go_ret
     exact hfx.out
    ·have e2 : (t == 0) = false := by rw [beq_eq_false_iff_ne]; exact g2
     by_cases g3:t=want
     ·have e3 : (t != want) = false := by rw [g3]; simp
      have hfx:Hid (Yz TT w (.returned (.int .i64 0)) X):=hide ⟨0,rfl,⟨fun _=>hT.out.2 ⟨g0,g1,g2,g3⟩,fun _=>rfl⟩,hfin.out⟩
      refine hd3 g2 g3 g0 ?_;clear g2 g3 g0;intro g2 g3 g0
      go_wp2
      go_ret
      exact hfx.out
     ·have e3 : (t != want) = true := by simpa using g3
      have hfx:Hid (Yz TT w (.returned (.int .i64 7)) X):=hide ⟨7,rfl,⟨fun h=>by omega,fun h=>absurd (hT.out.1 h).2.2.2 g3⟩,hfin.out⟩
      refine hd3 g2 g3 g0 ?_;clear g2 g3 g0;intro g2 g3 g0
      go_wp2
      go_ret
      exact hfx.out
   ·have hfx : Hid (Yz TT w (.returned (.int .i64 10)) W) := hide ⟨10, rfl, ⟨fun h => by omega, fun h => absurd (hT.out.1 h).2.1 g1⟩, hfin.out⟩
    replace g0:=hide g0
    go_wp2
    go_ret
    exact hfx.out
  ·have e0 : (v.bits != 0) = true := by simpa using g0
   have hfx:Hid (Yz TT w (.returned (.int .i64 15)) W):=hide ⟨15,rfl,⟨fun h=>by omega,fun h=>absurd (hT.out.1 h).1 g0⟩,hfin.out⟩
   replace g0:=hide g0
   go_wp2
   go_ret
   exact hfx.out
 ·have b1 : (v.kind == 1) = false := by rw [beq_eq_false_iff_ne]; exact h1
  by_cases h2:v.kind=2
  ·have hT : Hid (TT ↔ v.num = 0 ∧ want ≠ 65 ∧ v.bits ≤ maskS want) := hide (by rw [hTT.out, OpdOk, if_neg h1, if_pos h2])
   have b2:(v.kind==2)=true:=by rw [h2];rfl
   replace h1:=hide h1
   replace h2:=hide h2
   by_cases g0:v.num=0
   ·have e0 : (v.num != 0) = false := by rw [g0]; rfl
    by_cases g1:want=65
    ·have e1 : (want == 65) = true := by rw [g1]; rfl
     have hfx:Hid (∀Y,Below W.heap.size W Y→Yz TT w (.returned (.int .i64 7)) Y):=hide (fun Y hY=>⟨7,rfl,⟨fun h=>by omega,fun h=>absurd g1 (hT.out.1 h).2.1⟩,hwfin.out Y hY⟩)
     replace g1:=hide g1
     replace g0:=hide g0
     go_upto_region 16 with(fail)
     go_quiet (fail)
     have hbQ:=Yi hself nq
     go_wp2
     go_ret
     exact hfx.out _ hbQ
    ·have e1 : (want == 65) = false := by rw [beq_eq_false_iff_ne]; exact g1
     obtain⟨mk,hmk⟩:∃mk,Hid (maskS want=mk):=⟨_,hide rfl⟩
     rw [hmk.out] at cM hT
     have hself2:=hself.drew
     by_cases g2:v.bits≤mk
     ·have e2 : ¬ v.bits > mk := by omega
      have e2':decide (mk<v.bits)=false:=decide_eq_false e2
      have hfx:Hid (∀Y,Below W.heap.size W Y→Yz TT w (.returned (.int .i64 0)) Y):=hide (fun Y hY=>⟨0,rfl,⟨fun _=>hT.out.2 ⟨g0,g1,g2⟩,fun _=>rfl⟩,hwfin.out Y hY⟩)
      replace g1:=hide g1
      replace g0:=hide g0
      go_upto_region 16 with(fail)
      go_region_held3 (fun w' => Below W.heap.size W w') (first | (with_reducible assumption) | exact hself2)
       (first
        | (go_at_call 123;refine(cM.out _).mono ?_;rintro e X2 ⟨rfl,hw2⟩;subst hw2))
      go_wp2
      go_ret
      exact hfx.out _ hself2
     ·have e2 : v.bits > mk := by omega
      have e2':decide (mk<v.bits)=true:=decide_eq_true e2
      have hfx:Hid (∀Y,Below W.heap.size W Y→Yz TT w (.returned (.int .i64 7)) Y):=hide (fun Y hY=>⟨7,rfl,⟨fun h=>by omega,fun h=>absurd (hT.out.1 h).2.2 g2⟩,hwfin.out Y hY⟩)
      replace g1:=hide g1
      replace g0:=hide g0
      go_upto_region 16 with(fail)
      go_region_held3 (fun w' => Below W.heap.size W w') (first | (with_reducible assumption) | exact hself2)
       (first
        | (go_at_call 123;refine(cM.out _).mono ?_;rintro e X2 ⟨rfl,hw2⟩;subst hw2))
      go_wp2
      go_ret
      exact hfx.out _ hself2
   ·have e0 : (v.num != 0) = true := by simpa using g0
    have hfx:Hid (Yz TT w (.returned (.int .i64 15)) W):=hide ⟨15,rfl,⟨fun h=>by omega,fun h=>absurd (hT.out.1 h).1 g0⟩,hfin.out⟩
    replace g0:=hide g0
    go_wp2
    go_ret
    exact hfx.out
  ·have b2 : (v.kind == 2) = false := by rw [beq_eq_false_iff_ne]; exact h2
   have hT:Hid (TT↔if v.kind=3∨v.kind=4 then v.num=0∧v.bits=0∧(v.kind=4→want=65) else if v.kind=5 then v.bits=0∧0≤v.num∧v.num<(v1:Int)∧want=65 else False):=hide (by rw [hTT.out,OpdOk,if_neg h1,if_neg h2,hvv.out])
   have z0:=y0 W hself
   have z1:=y1 W hself
   have z2:=y2 W hself
   obtain⟨kd,hkd⟩:=Jn (v.kind)
   obtain⟨nm,hnm⟩:=Jn (v.num)
   obtain⟨bt,hbt⟩:=Jn (v.bits)
   rw [←hkd.out] at z0 b1 b2
   rw [←hnm.out] at z1
   rw [←hbt.out] at z2
   have hT2:Hid (TT↔if kd=3∨kd=4 then nm=0∧bt=0∧(kd=4→want=65) else if kd=5 then bt=0∧0≤nm∧nm<(v1:Int)∧want=65 else False):=hide (by rw [hkd.out,hnm.out,hbt.out];exact hT.out)
   have s0:=p0 W hself
   replace h1:=hide h1
   replace h2:=hide h2
   clear y0 y1 y2 p0 q0 q1 q2 q3 hT
   go_wp2
   all_goals go_ret
   all_goals refine⟨_,rfl,?_,hfin.out⟩
   all_goals
    rw [hT2.out]
    clear hT2 hTT hkd hnm hbt hwW hWs hfin hwfin z0 z1 z2 s0 h1 h2 hf cT cM hself hvv
    try simp at *
    try ((repeat' split)<;>first|omega|(simp;omega)|(exfalso;omega))
theorem OwnL.kept {w w':World} {B:Nat} {no:Option Nat} {v:Value} {ls:List (List Int)} {cs:List Value} (h:OwnL w B no v ls cs) (hk:∀k,B≤k→k<w.heap.size→w'.heap[k]? = w.heap[k]?):OwnL w' B no v ls cs :=
 ⟨Yc h.row fun k hv=>hk k (Ya h.row hv).1 (Ya h.row hv).2.1,fun i c l hc hl=>(h.inn i c l hc hl).kept hk,h.apart,h.far⟩
end Go.Proofs.YtamjcafjdioidaaGreat
