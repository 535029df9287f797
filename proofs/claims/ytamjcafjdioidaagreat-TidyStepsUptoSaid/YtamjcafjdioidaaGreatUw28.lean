/- Texts of the chain, without what is not wanted: VrF, BmE, VrM, IrCa. No condition but sizes. -/
import Derived.Laws.Externs
import Derived.Laws.Bits64b
import Derived.Lib.Mul64
import Derived.Test.YtamjcafjdioidaaGreatUw27
set_option linter.unusedVariables false
set_option linter.unusedSimpArgs false
set_option maxRecDepth 100000
set_option maxHeartbeats 12800000
namespace Go.Proofs.YtamjcafjdioidaaGreat
open Go.RowKit
theorem Yac (f:Fun):f.blocks.flatten.length≤Ybo f:=by
 have key:∀bs:List (List Ins),bs.flatten.length≤(bs.map blkSz).sum:=fun bs=>by
  induction bs with
  | nil=>simp
  | cons x bs ih =>
   have h2:x.length≤(x.map insSz).sum:=sum_len insSz (fun x=>by unfold insSz;omega) x
   have h3:blkSz x=(x.map insSz).sum+1:=rfl
   simp only [List.flatten_cons,List.length_append,List.map_cons,List.sum_cons]
   omega
 have:=key f.blocks
 unfold Ybo blksSz
 omega
def BlkOk (n:Nat) (x:List Ins):Prop:=∃y,x[x.length - 1]? = some y∧Yce y.op=true∧(∀(i:Nat) z,i+1<x.length→x[i]? = some z→Yce z.op=false)∧∀t,t∈y.to→1≤t∧t<n
def Yak (bs:List (List Ins)):Prop:=(1≤bs.length∧bs.length≤64∧bs.flatten.length≤400)∧∀(b:Nat) x,bs[b]? = some x→BlkOk bs.length x
theorem blocks08_any (f : Fun) (n : Int) (c1 c2 : Value) (w : World) (B : Nat) (hB : B ≤ w.heap.size) (hf : RFun.rep w B [.string f.name, c1, .int .i64 f.ret, c2] f) (hsz : Ybo f ≤ 2000000) :
  Calls Tryz.prog 46 #[f.v c1 c2, .int .i64 n] w (Z2 (Yak f.blocks) w):=by
 have hs:Zo f:=Ybu hsz
 obtain⟨hp,hb⟩:=Yk (RFun.later hf (Below.refl _ _) hB)
 obtain⟨A1,k1,h1,hm1,gp⟩:=Rp.slice1_open hp
 obtain⟨A2,k2,h2,hm2,gb⟩:=Rp.slice1_open hb
 cases h1;cases h2
 refine hd2 gp gb ?_;clear gp gb;intro gp gb
 clear hp hb
 obtain⟨N,hN⟩:=Jn (f.blocks.length)
 obtain⟨np,hnp⟩:=Jn (f.params.length)
 have hNle:N≤2000000:=by rw [hN.out];exact hs.blocks
 rw [←hN.out,←hnp.out] at hf⊢
 rw [←hN.out] at hm2
 rw [←hnp.out] at hm1
 obtain⟨W,hW,hwW,hWs,hx,hy⟩:=Ql w #[.string f.name, .slice A1 np k1, .int .i64 f.ret, .slice A2 N k2] #[.int .i64 0, .int .i64 0, .int .i64 0, .int .i64 0] 32 50
 have q0:∀w',Below W.heap.size W w'→w'.cell? ⟨w.heap.size,0,none⟩=some (.string f.name):=hx 0 _ rfl
 have q1:∀w',Below W.heap.size W w'→w'.cell? ⟨w.heap.size,1,none⟩=some (.slice A1 np k1):=hx 1 _ rfl
 have q2:∀w',Below W.heap.size W w'→w'.cell? ⟨w.heap.size,2,none⟩=some (.int .i64 f.ret):=hx 2 _ rfl
 have q3:∀w',Below W.heap.size W w'→w'.cell? ⟨w.heap.size,3,none⟩=some (.slice A2 N k2):=hx 3 _ rfl
 obtain⟨R,hRd⟩:=Jn (w.heap.size+1)
 have hR:Hid (W.heap[R]? = some (.cells #[.int .i64 0, .int .i64 0, .int .i64 0, .int .i64 0] 50 (0,0))):=hide (by
  rw [hRd.out,←hW]
  have:=Yu (w.alloc (.cells #[.string f.name, .slice A1 np k1, .int .i64 f.ret, .slice A2 N k2] 32)) (.cells #[.int .i64 0, .int .i64 0, .int .i64 0, .int .i64 0] 50)
  simpa using this)
 have hRW:R<W.heap.size:=by have:=hRd.out;omega
 have hRw:Hid (w.heap.size≤R):=hide (by have:=hRd.out;omega)
 clear hx hy
 have hws:w.heap.size≤W.heap.size:=by omega
 have hwX:Hid (∀w',Below W.heap.size W w'→Below w.heap.size w w'):=hide (fun w' h=>hwW.trans (h.mono hws))
 have hF:Hid (∀w',Below W.heap.size W w'→RFun.rep w' w'.heap.size [.string f.name, .slice A1 np k1, .int .i64 f.ret, .slice A2 N k2] f):=hide (fun w' h=>RFun.later hf ((hwX.out w' h).mono hB) (Nat.le_trans hB (hwX.out w' h).size))
 have hCo:Hid (∀w',Below W.heap.size W w'→Calls Tryz.prog 68 #[f.v (.slice A1 np k1) (.slice A2 N k2)] w' (CodePost f w')):=hide (fun w' h=>Yb1 f _ _ w' w'.heap.size (Nat.le_refl _) (Yk (hF.out w' h)).1 (Yk (hF.out w' h)).2 (by have:=Yac f;omega))
 have hzb:Hid (∀x,x∈f.blocks→x.length≤2000000):=hide (fun x hx=>(hs.code x hx).1)
 refine hd3 hs hf hWs ?_;clear hs hf hWs;intro hs hf hWs
 have hself:=Below.refl W.heap.size W
 refine hd2 hW hwW ?_;clear hW hwW;intro hW hwW
 go_enter Tryz.func46,Tryz.ntmps46
 go_upto_region 1 with(fail)
 rw [hW.out,←hRd.out]
 clear hW
 go_wp2_with (fail)
 refine(hCo.out _ hself).mono ?_
 rintro e V0 ⟨vl,vp,rfl,hb0,hl,hpl⟩
 obtain⟨A3,k3,h3,hm3,gl⟩:=Rp.slice_open hl
 obtain⟨A4,k4,h4,hm4,gpl⟩:=Rp.slice_open hpl
 cases h3;cases h4
 have hpp:(Yl f.blocks f.blocks.length 0).length=f.blocks.flatten.length:=by rw [Zk _ _ (.inl rfl) (Nat.le_refl _),Z3]
 have hbV0:=hself.trans (hb0.mono hself.size)
 refine hd2 gl gpl ?_;clear gl gpl;intro gl gpl
 obtain⟨l,hll⟩:∃l:List Ins,Hid (l=f.blocks.flatten):=⟨_,hide rfl⟩
 obtain⟨pl,hpll⟩:∃pl:List Plc,Hid (pl=Yl f.blocks f.blocks.length 0):=⟨_,hide rfl⟩
 rw [←hll.out] at gl hpp hm3⊢
 rw [←hpll.out] at gpl hpp hm4⊢
 obtain⟨nl,hnl⟩:=Jn (l.length)
 rw [hpp,←hnl.out] at gpl hm4⊢
 rw [←hnl.out] at gl hm3
 have hpl2:Hid (pl.length=nl):=hide (by rw [hpp,hnl.out])
 clear hl hpl hpp hb0
 have hfl:f.blocks.flatten.length=nl:=by rw [hnl.out,hll.out]
 have hfl:=hide hfl
 have hnl2:nl≤2000000:=by have:=Yac f;have:=hfl.out;omega
 have hbel:=hbV0
 clear hself
 by_cases g1:1≤N
 case neg =>
  have a1:(N:Int)<1:=by omega
  have hfx:Hid ((6:Int)=0↔Yak f.blocks):=hide ⟨fun h=>by omega,fun h=>absurd h.1.1 (by rw [←hN.out];exact g1)⟩
  go_wp2_with (fail)
  refine(Zc _ _ _ _ _).mono ?_
  rintro e X9 ⟨rfl,hb9⟩
  have hk9:Below W.heap.size W X9:=hbel.trans (hb9.mono hbel.size)
  have hR9:X9.heap[R]? = _:=(hk9.block R hRW).trans hR.out
  obtain⟨z0,z1,z2,z3⟩:=Zz hR9
  obtain⟨f0,f1,f2,f3⟩:=Yj hR9
  go_wp2
  refine Yp (c:=6) (k:=(n)) (b:=0) (i:=0) ?_ (by rfl) hfx.out (Zs (hwX.out X9 hk9) hRw.out)
  obtain⟨y0,y1,y2,y3⟩:=Zq (u0 := .int .i64 (6)) (u1 := .int .i64 (n)) (u2 := .int .i64 (0)) (u3 := .int .i64 (0)) hR9
  simp [results,Tryz.results46,go_sem,y0,y1,y2,y3]
 by_cases g2:N≤64
 case neg =>
  have a1:¬(N:Int)<1:=by omega
  have a2:(N:Int) > 64:=by omega
  have hfx:Hid ((6:Int)=0↔Yak f.blocks):=hide ⟨fun h=>by omega,fun h=>absurd h.1.2.1 (by rw [←hN.out];exact g2)⟩
  go_wp2_with (fail)
  refine(Zc _ _ _ _ _).mono ?_
  rintro e X9 ⟨rfl,hb9⟩
  have hk9:Below W.heap.size W X9:=hbel.trans (hb9.mono hbel.size)
  have hR9:X9.heap[R]? = _:=(hk9.block R hRW).trans hR.out
  obtain⟨z0,z1,z2,z3⟩:=Zz hR9
  obtain⟨f0,f1,f2,f3⟩:=Yj hR9
  go_wp2
  refine Yp (c:=6) (k:=(n)) (b:=0) (i:=0) ?_ (by rfl) hfx.out (Zs (hwX.out X9 hk9) hRw.out)
  obtain⟨y0,y1,y2,y3⟩:=Zq (u0 := .int .i64 (6)) (u1 := .int .i64 (n)) (u2 := .int .i64 (0)) (u3 := .int .i64 (0)) hR9
  simp [results,Tryz.results46,go_sem,y0,y1,y2,y3]
 by_cases g3:nl≤400
 case neg =>
  have a1:¬(N:Int)<1:=by omega
  have a2:¬(N:Int) > 64:=by omega
  have a3:(nl:Int) > 400:=by omega
  have hfx:Hid ((6:Int)=0↔Yak f.blocks):=hide ⟨fun h=>by omega,fun h=>absurd h.1.2.2 (by rw [hfl.out];exact g3)⟩
  go_wp2_with (fail)
  refine(Zc _ _ _ _ _).mono ?_
  rintro e X9 ⟨rfl,hb9⟩
  have hk9:Below W.heap.size W X9:=hbel.trans (hb9.mono hbel.size)
  have hR9:X9.heap[R]? = _:=(hk9.block R hRW).trans hR.out
  obtain⟨z0,z1,z2,z3⟩:=Zz hR9
  obtain⟨f0,f1,f2,f3⟩:=Yj hR9
  go_wp2
  refine Yp (c:=6) (k:=(n)) (b:=0) (i:=0) ?_ (by rfl) hfx.out (Zs (hwX.out X9 hk9) hRw.out)
  obtain⟨y0,y1,y2,y3⟩:=Zq (u0 := .int .i64 (6)) (u1 := .int .i64 (n)) (u2 := .int .i64 (0)) (u3 := .int .i64 (0)) hR9
  simp [results,Tryz.results46,go_sem,y0,y1,y2,y3]
 have a1:¬(N:Int)<1:=by omega
 have a2:¬(N:Int) > 64:=by omega
 have a3:¬(nl:Int) > 400:=by omega
 have hok0:Hid (∀(b:Nat) x,b<0→f.blocks[b]? = some x→BlkOk N x):=hide (fun b x h=>by omega)
 have hself:=hbel
 clear hbel hbV0
 go_wp2
 go_loopw [7,8,9,10,11,12,13] (fun s7 _ _ _ _ _ _ wr=>∃b:Nat,s7 = .int .i64 b∧b≤N∧Hid (∀(c:Nat) x,c<b→f.blocks[c]? = some x→BlkOk N x)∧Below W.heap.size W wr) (fun s7 _ _ _ _ _ _ _=>N - (intOf s7).toNat)
 case atStart=>exact⟨0,rfl,Nat.zero_le _,hok0,hself⟩
 case round =>
  clear hok0 hself
  rename World=>V
  obtain⟨b,rfl,hb9,hok,hbel⟩:=hrel
  have hVs:=hbel.size
  have q3V:=q3 V hbel
  by_cases hlt:b<N
  ·have hbi : (b : Int) < (N : Int) := by omega
   obtain⟨x,hx⟩:=Yf (l:=f.blocks) (k:=b) (by rw [←hN.out];exact hlt)
   have hxl:x.length≤2000000:=hzb.out x (Jm hx.out)
   obtain⟨b1,o1,hA2,he1⟩:=gb.out (by rw [←hN.out];omega)
   subst hA2
   obtain⟨d1,hr1,hd1⟩:=he1 b x hx.out
   obtain⟨A5,c5,h5,hm5,ga⟩:=Rp.slice_open hr1
   cases h5
   replace ga:=hide ga
   have hd1':∀w',Below W.heap.size W w'→w'.cell? ⟨b1,o1+b,none⟩=some (.slice A5 x.length c5):=fun w' h=>hd1 w' (hwX.out w' h)
   have d1V:=hd1' V hbel
   obtain⟨lx,hlx⟩:=Jn (x.length)
   rw [←hlx.out] at hxl d1V hd1' hm5
   clear hd1 hr1 he1
   by_cases h0:lx=0
   ·have e0 : ((lx : Int) == 0) = true := by rw [h0]; rfl
    have hfx:Hid ((9:Int)=0↔Yak f.blocks):=hide ⟨fun h=>by omega,fun h=>by
     obtain⟨y,hy, -⟩:=h.2 b x hx.out
     have:=(Js.1 hy).1
     have:=hlx.out
     omega⟩
    replace h0:=hide h0
    go_wp2_with (fail)
    refine(Zc _ _ _ _ _).mono ?_
    rintro e X9 ⟨rfl,hb9⟩
    have hk9:Below W.heap.size W X9:=hbel.trans (hb9.mono hbel.size)
    have hR9:X9.heap[R]? = _:=(hk9.block R hRW).trans hR.out
    obtain⟨z0,z1,z2,z3⟩:=Zz hR9
    obtain⟨f0,f1,f2,f3⟩:=Yj hR9
    go_wp2
    refine Yp (c:=9) (k:=(n)) (b:=b) (i:=0) ?_ (by rfl) hfx.out (Zs (hwX.out X9 hk9) hRw.out)
    obtain⟨y0,y1,y2,y3⟩:=Zq (u0 := .int .i64 (9)) (u1 := .int .i64 (n)) (u2 := .int .i64 (b)) (u3 := .int .i64 (0)) hR9
    simp [results,Tryz.results46,go_sem,y0,y1,y2,y3]
   ·have e0 : ((lx : Int) == 0) = false := by rw [beq_eq_false_iff_ne]; omega
    obtain⟨m,hm⟩:∃m,Hid (lx=m+1):=⟨lx - 1,hide (by omega)⟩
    have hmi:(lx:Int) - 1=(m:Int):=by have:=hm.out;omega
    have hml:m<lx:=by have:=hm.out;omega
    have hmi2:(m:Int)<(lx:Int):=by omega
    obtain⟨y,hy⟩:=Yf (l:=x) (k:=m) (by rw [←hlx.out];exact hml)
    have hyl:Hid (x[x.length - 1]? = some y):=hide (by rw [show x.length - 1=m by have:=hm.out;have:=hlx.out;omega];exact hy.out)
    obtain⟨b3,o3,hA5,he3⟩:=ga.out (by rw [←hlx.out];omega)
    subst hA5
    obtain⟨_,_,⟨a1',a2',rfl,ha,hto, -,hokr, -⟩,hc⟩:=he3 m y hy.out
    obtain⟨A6,k6,h6,hm6,gt⟩:=Rp.slice1_open hto
    cases h6
    replace gt:=hide gt
    obtain⟨e0', -, -, -, -, -,e6'⟩:=hc.seven
    have e0':∀w',Below W.heap.size W w'→w'.cell? ⟨b3,o3+m*7,none⟩=some (.int .i64 y.op):=fun w' h=>e0' w' (hwX.out w' h)
    have e6':∀w',Below W.heap.size W w'→w'.cell? ⟨b3,o3+m*7+6,none⟩=some (.slice A6 y.to.length k6):=fun w' h=>e6' w' (hwX.out w' h)
    have he3:=hide he3
    clear ha hto hc hokr
    obtain⟨nt,hnt⟩:=Jn (y.to.length)
    rw [←hnt.out] at e6' hm6
    replace h0:=hide h0
    have e0V:=e0' V hbel
    go_wp2_with (fail)
    refine(rends_any y.op _).mono ?_
    rintro e w9 ⟨rfl,hw9⟩
    subst hw9
    cases hen:Yce y.op with
    | false =>
     have hfx:Hid ((9:Int)=0↔Yak f.blocks):=hide ⟨fun h=>by omega,fun h=>by
      obtain⟨z,hz,h9, -⟩:=h.2 b x hx.out
      rw [hyl.out] at hz
      cases hz
      rw [hen] at h9
      cases h9⟩
     replace hen:=hide hen
     go_wp2_with (fail)
     refine(Zc _ _ _ _ _).mono ?_
     rintro e X9 ⟨rfl,hb9⟩
     have hk9:Below W.heap.size W X9:=hbel.trans (hb9.mono hbel.size)
     have hR9:X9.heap[R]? = _:=(hk9.block R hRW).trans hR.out
     obtain⟨z0,z1,z2,z3⟩:=Zz hR9
     obtain⟨f0,f1,f2,f3⟩:=Yj hR9
     go_wp2
     refine Yp (c:=9) (k:=(n)) (b:=b) (i:=0) ?_ (by rfl) hfx.out (Zs (hwX.out X9 hk9) hRw.out)
     obtain⟨y0,y1,y2,y3⟩:=Zq (u0 := .int .i64 (9)) (u1 := .int .i64 (n)) (u2 := .int .i64 (b)) (u3 := .int .i64 (0)) hR9
     simp [results,Tryz.results46,go_sem,y0,y1,y2,y3]
    | true =>
     have hself:=hbel
     have hea0:Hid (∀(i:Nat) z,i<0→x[i]? = some z→Yce z.op=false):=hide (fun i z h=>by omega)
     go_wp2
     go_loopw [10,11] (fun s10 s11 wr=>∃i:Nat,s10 = .int .i64 i∧i≤m∧Hid (∀(j:Nat) z,j<i→x[j]? = some z→Yce z.op=false)∧Below W.heap.size W wr) (fun s10 _ _=>m - (intOf s10).toNat)
     case atStart=>exact⟨0,rfl,Nat.zero_le _,hea0,hself⟩
     case round =>
      clear hea0 hself
      rename World=>Y
      obtain⟨i,rfl,hi,hea,hbY⟩:=hrel
      have hYs:=hbY.size
      by_cases hlti:i<m
      ·have hii : (i : Int) < (m : Int) := by omega
       have hii2:(i:Int)<(lx:Int):=by omega
       obtain⟨z,hz⟩:=Yf (l:=x) (k:=i) (by rw [←hlx.out];omega)
       obtain⟨_,_,⟨a1',a2',rfl,ha,hto, -,hokr, -⟩,hc⟩:=he3.out i z hz.out
       obtain⟨t0, -⟩:=hc.seven
       have t0V:=t0 Y (hwX.out Y hbY)
       clear ha hto hc hokr t0
       go_wp2_with (fail)
       refine(rends_any z.op _).mono ?_
       rintro e w9 ⟨rfl,hw9⟩
       subst hw9
       cases hez:Yce z.op with
       | true =>
        have hfx:Hid ((9:Int)=0↔Yak f.blocks):=hide ⟨fun h=>by omega,fun h=>by
         obtain⟨_, -, -,h9, -⟩:=h.2 b x hx.out
         have:=h9 i z (by have:=hm.out;have:=hlx.out;omega) hz.out
         rw [hez] at this
         cases this⟩
        replace hez:=hide hez
        go_wp2_with (fail)
        refine(Zc _ _ _ _ _).mono ?_
        rintro e X9 ⟨rfl,hb9⟩
        have hk9:Below W.heap.size W X9:=hbY.trans (hb9.mono hbY.size)
        have hR9:X9.heap[R]? = _:=(hk9.block R hRW).trans hR.out
        obtain⟨z0,z1,z2,z3⟩:=Zz hR9
        obtain⟨f0,f1,f2,f3⟩:=Yj hR9
        go_wp2
        refine Yp (c:=9) (k:=(n)) (b:=b) (i:=i) ?_ (by rfl) hfx.out (Zs (hwX.out X9 hk9) hRw.out)
        obtain⟨y0,y1,y2,y3⟩:=Zq (u0 := .int .i64 (9)) (u1 := .int .i64 (n)) (u2 := .int .i64 (b)) (u3 := .int .i64 (i)) hR9
        simp [results,Tryz.results46,go_sem,y0,y1,y2,y3]
       | false =>
        have hnx:Hid (∀(j:Nat) z,j<i+1→x[j]? = some z→Yce z.op=false):=hide (fun j u hj hu=>by
         rcases Nat.lt_succ_iff_lt_or_eq.1 hj with h|h
         ·exact hea.out j u h hu
         ·subst h
          rw [hz.out] at hu
          cases hu
          exact hez)
        replace hez:=hide hez
        go_wp2
        go_roundw
        case rel=>exact⟨i+1,by go_num,hlti,hnx,hbY⟩
        case measure=>simp [intOf];omega
      ·have hall : Hid (∀ (j : Nat) z, j + 1 < x.length → x[j]? = some z → Yce z.op = false) := hide (fun j u hj hu => hea.out j u (by have := hm.out; have := hlx.out; omega) hu)
       have hself:=hbY
       have e6V:=e6' Y hbY
       have hto0:Hid (∀t,t∈y.to.take 0→1≤t∧t<(N:Int)):=hide (by simp)
       obtain rfl:i=m:=by omega
       go_wp2
       go_loopw [13] (fun s13 wr=>∃k:Nat,s13 = .int .i64 k∧k≤nt∧Hid (∀t,t∈y.to.take k→1≤t∧t<(N:Int))∧Below W.heap.size W wr) (fun s13 _=>nt - (intOf s13).toNat)
       case atStart=>exact⟨0,rfl,Nat.zero_le _,hto0,hself⟩
       case round =>
        clear hto0 hself
        rename World=>U
        obtain⟨k,rfl,hk,htk,hbU⟩:=hrel
        have hUs:=hbU.size
        have q3U:=q3 U hbU
        by_cases hltk:k<nt
        ·have hkk : (k : Int) < (nt : Int) := by omega
         obtain⟨t,ht⟩:=Yf (l:=y.to) (k:=k) (by rw [←hnt.out];exact hltk)
         obtain⟨b6,o6,hA6,he6⟩:=gt.out (by rw [←hnt.out];omega)
         subst hA6
         obtain⟨c,hc,r1⟩:=he6 k t ht.out
         have hc:=hc.1
         cases hc
         have r1:∀w',Below W.heap.size W w'→w'.cell? ⟨b6,o6+k,none⟩=some (.int .i64 t):=fun w' h=>r1 w' (hwX.out w' h)
         have r1U:=r1 U hbU
         clear he6
         by_cases ht1:1≤t
         ·have s1 : ¬ t < 1 := by omega
          have s1':decide (t<1)=false:=decide_eq_false s1
          by_cases ht2:t<(N:Int)
          ·have s2 : ¬ t ≥ (N : Int) := by omega
           have s2':decide ((N:Int)≤t)=false:=decide_eq_false s2
           have hnx:Hid (∀t,t∈y.to.take (k+1)→1≤t∧t<(N:Int)):=hide (by
            rw [Zl ht.out]
            intro u hu
            rcases List.mem_append.1 hu with h|h
            ·exact htk.out u h
            ·rw [List.mem_singleton.1 h];exact⟨ht1,ht2⟩)
           go_upto_region 23 with(fail)
           go_quiet (fail)
           have hbZ:Below W.heap.size W _:=Yi hbU nq
           go_wp2
           go_roundw
           case rel=>exact⟨k+1,by go_num,hltk,hnx,hbZ⟩
           case measure=>simp [intOf];omega
          ·have s2 : t ≥ (N : Int) := by omega
           have s2':decide ((N:Int)≤t)=true:=decide_eq_true s2
           have hfx:Hid ((8:Int)=0↔Yak f.blocks):=hide ⟨fun h=>by omega,fun h=>by
            obtain⟨z,hz, -, -,h9⟩:=h.2 b x hx.out
            rw [hyl.out] at hz
            cases hz
            exact absurd (h9 t (Jm ht.out)).2 (by rw [←hN.out];exact ht2)⟩
           go_upto_region 23 with(fail)
           go_quiet (fail)
           have hbZ:Below W.heap.size W _:=Yi hbU nq
           go_wp2_with (fail)
           refine(Zc _ _ _ _ _).mono ?_
           rintro e X9 ⟨rfl,hb9⟩
           have hk9:Below W.heap.size W X9:=hbZ.trans (hb9.mono hbZ.size)
           have hR9:X9.heap[R]? = _:=(hk9.block R hRW).trans hR.out
           obtain⟨z0,z1,z2,z3⟩:=Zz hR9
           obtain⟨f0,f1,f2,f3⟩:=Yj hR9
           go_wp2
           refine Yp (c:=8) (k:=(n)) (b:=b) (i:=i) ?_ (by rfl) hfx.out (Zs (hwX.out X9 hk9) hRw.out)
           obtain⟨y0,y1,y2,y3⟩:=Zq (u0 := .int .i64 (8)) (u1 := .int .i64 (n)) (u2 := .int .i64 (b)) (u3 := .int .i64 (i)) hR9
           simp [results,Tryz.results46,go_sem,y0,y1,y2,y3]
         ·have s1 : t < 1 := by omega
          have s1':decide (t<1)=true:=decide_eq_true s1
          have hfx:Hid ((8:Int)=0↔Yak f.blocks):=hide ⟨fun h=>by omega,fun h=>by
           obtain⟨z,hz, -, -,h9⟩:=h.2 b x hx.out
           rw [hyl.out] at hz
           cases hz
           exact absurd (h9 t (Jm ht.out)).1 ht1⟩
          go_upto_region 23 with(fail)
          go_quiet (fail)
          have hbZ:Below W.heap.size W _:=Yi hbU nq
          go_wp2_with (fail)
          refine(Zc _ _ _ _ _).mono ?_
          rintro e X9 ⟨rfl,hb9⟩
          have hk9:Below W.heap.size W X9:=hbZ.trans (hb9.mono hbZ.size)
          have hR9:X9.heap[R]? = _:=(hk9.block R hRW).trans hR.out
          obtain⟨z0,z1,z2,z3⟩:=Zz hR9
          obtain⟨f0,f1,f2,f3⟩:=Yj hR9
          go_wp2
          refine Yp (c:=8) (k:=(n)) (b:=b) (i:=i) ?_ (by rfl) hfx.out (Zs (hwX.out X9 hk9) hRw.out)
          obtain⟨y0,y1,y2,y3⟩:=Zq (u0 := .int .i64 (8)) (u1 := .int .i64 (n)) (u2 := .int .i64 (b)) (u3 := .int .i64 (i)) hR9
          simp [results,Tryz.results46,go_sem,y0,y1,y2,y3]
        ·have hnx:Hid (∀(c:Nat) x,c<b+1→f.blocks[c]? = some x→BlkOk N x):=hide (fun c u hc hu=>by
          rcases Nat.lt_succ_iff_lt_or_eq.1 hc with h|h
          ·exact hok.out c u h hu
          ·subst h
           rw [hx.out] at hu
           cases hu
           refine⟨y,hyl.out,hen,hall.out,fun t ht => ?_⟩
           have h9:=htk.out
           rw [List.take_of_length_le (by rw [←hnt.out];omega)] at h9
           exact h9 t ht)
         go_wp2
         go_roundw
         case rel=>exact⟨b+1,by go_num,hlt,hnx,hbU⟩
         case measure=>simp [intOf];omega
  ·have hfx : Hid (Yak f.blocks) := hide ⟨by rw [← hN.out, hfl.out]; exact ⟨g1, g2, g3⟩, fun c x hx => by rw [← hN.out]; exact hok.out c x (by have := (Js.1 hx).1; have := hN.out; omega) hx⟩
   have hR9:V.heap[R]? = _:=(hbel.block R hRW).trans hR.out
   obtain⟨z0,z1,z2,z3⟩:=Zz hR9
   obtain⟨f0,f1,f2,f3⟩:=Yj hR9
   go_wp2
   refine Yp (c:=0) (k:=(0)) (b:=0) (i:=0) ?_ (by rfl) ⟨fun _=>hfx.out,fun _=>rfl⟩ (Zs (hwX.out V hbel) hRw.out)
   obtain⟨y0,y1,y2,y3⟩:=Zq (u0 := .int .i64 (0)) (u1 := .int .i64 (0)) (u2 := .int .i64 (0)) (u3 := .int .i64 (0)) hR9
   simp [results,Tryz.results46,go_sem,y0,y1,y2,y3]
def convB (op:Int):Bool:=op==20||op==21||op==22
theorem ret_pair8 {r:Int×Int} {a b:Int} (h:r=(a,b)):Ending.returned (.tuple #[.int .i64 a, .int .i64 b]) = .returned (.tuple #[.int .i64 r.1, .int .i64 r.2]):=by rw [h]
def manyS (ret:Int) (x:Ins):Int×Int :=
 if x.op=23 then(3,0) else if x.op=25 then(x.args.length,x.args.length) else if x.op=30 then(x.args.length,0) else if x.op=26∨x.op=34 then(0,0) else if x.op=31 then(0,1) else if x.op=32 then(1,2)
 else if x.op=20∨x.op=21∨x.op=22∨x.op=24∨x.op=27 then(1,0) else if x.op=33 then(if ret=0 then(0,0) else(1,0)) else if 1≤x.op∧x.op≤29 then(2,0) else(-1, -1)
theorem Yb2 (op:Int) (w:World):Calls Tryz.prog 119 #[.int .i64 op] w fun e w'=>e = .returned (.bool (convB op))∧w=w':=by
 go_enter Tryz.func119,Tryz.ntmps119
 go_wp2
 all_goals go_ret
 all_goals
  refine⟨?_,rfl⟩
  simp [convB, *]
theorem many_any (f : Fun) (x : Ins) (A1 A2 A5 A6 : Option Addr) (np k1 N k2 k5 k6 : Nat) (w : World) :
  Calls Tryz.prog 118 #[f.v (.slice A1 np k1) (.slice A2 N k2),x.v (.slice A5 x.args.length k5) (.slice A6 x.to.length k6)] w fun e w'=>e = .returned (.tuple #[.int .i64 (manyS f.ret x).1, .int .i64 (manyS f.ret x).2])∧Below w.heap.size w w':=by
 obtain⟨W,hW,hwW,hWs,hx,hy⟩:=Ql w #[.string f.name, .slice A1 np k1, .int .i64 f.ret, .slice A2 N k2] #[.int .i64 x.op, .int .i64 x.reg, .int .i64 x.ty, .int .i64 x.num, .int .i64 x.flags, .slice A5 x.args.length k5, .slice A6 x.to.length k6] 32 44
 have q2:=hx 2 _ rfl W (Below.refl _ _)
 have y0:=hy 0 _ rfl W (Below.refl _ _)
 have y5:=hy 5 _ rfl W (Below.refl _ _)
 clear hx hy
 refine hd3 hWs hW hwW ?_;clear hWs hW hwW;intro hWs hW hwW
 obtain⟨op,hop⟩:=Jn (x.op)
 have hm : Hid (manyS f.ret x = if op = 23 then (3, 0) else if op = 25 then ((x.args.length : Int), (x.args.length : Int)) else if op = 30 then ((x.args.length : Int), 0) else if op = 26 ∨ op = 34 then (0, 0) else if op = 31 then (0, 1) else if op = 32 then (1, 2)
  else if op=20∨op=21∨op=22∨op=24∨op=27 then(1,0) else if op=33 then(if f.ret=0 then(0,0) else(1,0)) else if 1≤op∧op≤29 then(2,0) else(-1, -1)):=hide (by rw [hop.out];rfl)
 obtain⟨r,hr⟩:=Jn (manyS f.ret x)
 rw [←hr.out] at hm⊢
 rw [←hop.out] at y0
 have hself:True:=trivial
 go_enter Tryz.func118,Tryz.ntmps118
 go_upto_region 1 with(fail)
 rw [hW.out]
 clear hW
 go_wp2
 all_goals go_ret2
 all_goals refine⟨ret_pair8 ?_,hwW.out⟩
 all_goals
  have h:=hm.out
  clear hm hr hop hwW hWs hself
  rw [h]
  try simp at *
  (repeat' split)<;>first|rfl|omega|(exfalso;omega)
def lateB (x:Ins) (b:Int):Bool:=if x.op=26 then decide (b=0∧x.ty=65∧1≤x.num∧x.num≤64) else if x.op=29 then x.ty==65 else if x.op=31∨x.op=32∨x.op=34 then x.ty==0 else true
def formedB (ret:Int) (x:Ins) (b:Int):Bool :=
 decide ((manyS ret x).1=x.args.length∧(manyS ret x).2=x.to.length)&&decide (Yap x.op x.ty=0↔x.reg = -1)&&decide (x.num=0∨convB x.op=true∨x.op=26∨x.op=30)&&lateB x b
theorem formed_any (f : Fun) (x : Ins) (b : Int) (A1 A2 A5 A6 : Option Addr) (np k1 N k2 k5 k6 : Nat) (w : World) :
  Calls Tryz.prog 90 #[f.v (.slice A1 np k1) (.slice A2 N k2),x.v (.slice A5 x.args.length k5) (.slice A6 x.to.length k6), .int .i64 b] w (RetB (formedB f.ret x b) w):=by
 obtain⟨ans,hans⟩:=Jn (formedB f.ret x b)
 rw [←hans.out]
 obtain⟨W,hW,hwW,hWs,hx,hy⟩:=Ql w #[.string f.name, .slice A1 np k1, .int .i64 f.ret, .slice A2 N k2] #[.int .i64 x.op, .int .i64 x.reg, .int .i64 x.ty, .int .i64 x.num, .int .i64 x.flags, .slice A5 x.args.length k5, .slice A6 x.to.length k6] 32 44
 have q0:∀w',Below W.heap.size W w'→w'.cell? ⟨w.heap.size,0,none⟩=some (.string f.name):=hx 0 _ rfl
 have q1:∀w',Below W.heap.size W w'→w'.cell? ⟨w.heap.size,1,none⟩=some (.slice A1 np k1):=hx 1 _ rfl
 have q2:∀w',Below W.heap.size W w'→w'.cell? ⟨w.heap.size,2,none⟩=some (.int .i64 f.ret):=hx 2 _ rfl
 have q3:∀w',Below W.heap.size W w'→w'.cell? ⟨w.heap.size,3,none⟩=some (.slice A2 N k2):=hx 3 _ rfl
 have y0:∀w',Below W.heap.size W w'→w'.cell? ⟨w.heap.size+1,0,none⟩=some (.int .i64 x.op):=hy 0 _ rfl
 have y1:∀w',Below W.heap.size W w'→w'.cell? ⟨w.heap.size+1,1,none⟩=some (.int .i64 x.reg):=hy 1 _ rfl
 have y2:∀w',Below W.heap.size W w'→w'.cell? ⟨w.heap.size+1,2,none⟩=some (.int .i64 x.ty):=hy 2 _ rfl
 have y3:∀w',Below W.heap.size W w'→w'.cell? ⟨w.heap.size+1,3,none⟩=some (.int .i64 x.num):=hy 3 _ rfl
 have y4:∀w',Below W.heap.size W w'→w'.cell? ⟨w.heap.size+1,4,none⟩=some (.int .i64 x.flags):=hy 4 _ rfl
 have y5:∀w',Below W.heap.size W w'→w'.cell? ⟨w.heap.size+1,5,none⟩=some (.slice A5 x.args.length k5):=hy 5 _ rfl
 have y6:∀w',Below W.heap.size W w'→w'.cell? ⟨w.heap.size+1,6,none⟩=some (.slice A6 x.to.length k6):=hy 6 _ rfl
 clear hx hy
 have hself:=Below.refl W.heap.size W
 have hws:w.heap.size≤W.heap.size:=by omega
 refine hd3 hWs hW hwW ?_;clear hWs hW hwW;intro hWs hW hwW
 have cM:Hid (∀w',Below W.heap.size W w'→Calls Tryz.prog 118 #[f.v (.slice A1 np k1) (.slice A2 N k2),x.v (.slice A5 x.args.length k5) (.slice A6 x.to.length k6)] w' fun e w''=>e = .returned (.tuple #[.int .i64 (manyS f.ret x).1, .int .i64 (manyS f.ret x).2])∧Below w'.heap.size w' w''):=hide (fun w' _=>many_any f x A1 A2 A5 A6 np k1 N k2 k5 k6 w')
 have cR:Hid (∀w',Below W.heap.size W w'→Calls Tryz.prog 93 #[x.v (.slice A5 x.args.length k5) (.slice A6 x.to.length k6)] w' fun e w''=>e = .returned (.int .i64 (Yap x.op x.ty))∧Below w'.heap.size w' w''):=hide (fun w' _=>Ybj x _ _ w')
 obtain⟨r1,hr1⟩:=Jn ((manyS f.ret x).1)
 obtain⟨r2,hr2⟩:=Jn ((manyS f.ret x).2)
 obtain⟨rs,hrs⟩:=Jn (Yap x.op x.ty)
 rw [←hr1.out,←hr2.out] at cM
 rw [←hrs.out] at cR
 have hA:Hid (ans=(decide (r1=x.args.length∧r2=x.to.length)&&decide (rs=0↔x.reg = -1)&&decide (x.num=0∨convB x.op=true∨x.op=26∨x.op=30)&&lateB x b)):=hide (by rw [hans.out,hr1.out,hr2.out,hrs.out];rfl)
 go_enter Tryz.func90,Tryz.ntmps90
 go_upto_region 1 with(fail)
 rw [hW.out]
 clear hW
 go_wp2_with (fail)
 refine(cM.out _ hself).mono ?_
 rintro e V ⟨rfl,hb1⟩
 have hfin:=hide (hwW.out.trans (hb1.mono hws))
 by_cases h1:r1=x.args.length
 case neg =>
  have a1:(r1 != (x.args.length:Int))=true:=by simpa using h1
  have hfx:Hid (ans=false):=hide (by rw [hA.out];simp [h1])
  replace h1:=hide h1
  go_wp2
  go_ret
  exact⟨by rw [hfx.out];rfl,hfin.out⟩
 have a1:(r1 != (x.args.length:Int))=false:=by rw [h1];simp
 by_cases h2:r2=x.to.length
 case neg =>
  have a2:(r2 != (x.to.length:Int))=true:=by simpa using h2
  have hfx:Hid (ans=false):=hide (by rw [hA.out];simp [h2])
  refine hd2 h1 h2 ?_;clear h1 h2;intro h1 h2
  go_wp2
  go_ret
  exact⟨by rw [hfx.out];rfl,hfin.out⟩
 have a2:(r2 != (x.to.length:Int))=false:=by rw [h2];simp
 have hA2:Hid (ans=(decide (rs=0↔x.reg = -1)&&decide (x.num=0∨convB x.op=true∨x.op=26∨x.op=30)&&lateB x b)):=hide (by rw [hA.out];simp [h1,h2])
 refine hd2 h1 h2 ?_;clear h1 h2;intro h1 h2
 clear hA
 obtain⟨tb,htb⟩:=Jn (!((rs==0)==(x.reg == -1)))
 have htb2:Hid (decide (rs=0↔x.reg = -1) = !tb):=hide (by
  rw [htb.out,Bool.not_not,Bool.eq_iff_iff,decide_eq_true_eq,beq_iff_eq,Bool.eq_iff_iff,beq_iff_eq,beq_iff_eq])
 go_upto_region 4 with(fail)
 refine region_below (by kernel_rfl) (by kernel_rfl) hb1 ?_
 repeat (first
  | go_big_quiet_skip
  | (go_big_quiet_want;go_big_quiet_op;go_big_quiet_on)
  | (go_big_quiet_want
     apply Exists.intro
     refine⟨fun w9 hw9 => ?_,?_⟩
     ·go_simp
      first
       | with_reducible exact(ret_class (cR.out _ hw9) hw9)
       | rfl
     go_simp
     go_big_quiet_on))
 refine wpQuiet_nil ?_
 intro w9 hw9
 rw [←htb.out]
 have hfin:=hide (hwW.out.trans (hw9.mono hws))
 rw [htb2.out] at hA2
 cases tb with
 | true =>
  have hfx:Hid (ans=false):=hide (by rw [hA2.out];rfl)
  go_wp2
  go_ret
  exact⟨by rw [hfx.out];rfl,hfin.out⟩
 | false =>
  obtain⟨cb,hcb⟩:∃cb,Hid (convB x.op=cb):=⟨_,hide rfl⟩
  go_wp2_with (fail)
  refine(Yb2 x.op _).mono ?_
  rintro e w8 ⟨rfl,hw8⟩
  subst hw8
  rw [hcb.out]
  have hA3:Hid (ans=(decide (x.num=0∨cb=true∨x.op=26∨x.op=30)&&lateB x b)):=hide (by rw [hA2.out,hcb.out];rfl)
  have z0:=y0 w9 hw9
  have z2:=y2 w9 hw9
  have z3:=y3 w9 hw9
  clear y0 y1 y2 y3 y4 y5 y6 q0 q1 q2 q3 hb1 hw9 hself
  obtain⟨op,hop⟩:=Jn (x.op)
  obtain⟨nm,hnm⟩:=Jn (x.num)
  obtain⟨ty,hty⟩:=Jn (x.ty)
  have hA4:Hid (ans=(decide (nm=0∨cb=true∨op=26∨op=30)&&(if op=26 then decide (b=0∧ty=65∧1≤nm∧nm≤64) else if op=29 then ty==65 else if op=31∨op=32∨op=34 then ty==0 else true))):=hide (by rw [hA3.out,hop.out,hnm.out,hty.out];rfl)
  rw [←hop.out] at z0
  rw [←hty.out] at z2
  rw [←hnm.out] at z3
  clear hA2 hA3
  cases cb with
  | true =>
   go_wp2
   all_goals go_ret
   all_goals refine⟨Z6 ?_,hfin.out⟩
   all_goals
    have h:=hA4.out
    clear hA4 hop hnm hty hcb hans hrs hr1 hr2 htb2 htb cM cR hfin z0 z2 z3
    rw [h,Bool.eq_iff_iff]
    try simp at *
    try ((repeat' split)<;>first|rfl|omega|(simp;omega)|(exfalso;omega))
  | false =>
   go_wp2
   all_goals go_ret
   all_goals refine⟨Z6 ?_,hfin.out⟩
   all_goals
    have h:=hA4.out
    clear hA4 hop hnm hty hcb hans hrs hr1 hr2 htb2 htb cM cR hfin z0 z2 z3
    rw [h,Bool.eq_iff_iff]
    try simp at *
    try ((repeat' split)<;>first|rfl|omega|(simp;omega)|(exfalso;omega))
def pw (w:Int):Int:=2 ^ w.toNat
theorem pw_pos (w:Int):1≤pw w:=by
 unfold pw
 have:(0:Int)<2 ^ w.toNat:=Int.pow_pos (by decide)
 omega
theorem pw_add {a b:Int} (ha:0≤a) (hb:0≤b):pw (a+b)=pw a*pw b:=by
 unfold pw
 rw [←Int.pow_add,Int.toNat_add ha hb]
theorem pw_64:pw 64=18446744073709551616:=by decide
theorem pw_63:pw 63=9223372036854775808:=by decide
theorem pw_succ {a:Int} (ha:0≤a):pw (a+1)=2*pw a:=by
 rw [pw_add ha (by decide)]
 have:pw 1=2:=by decide
 rw [this,Int.mul_comm]
theorem pw_half {w:Int} (h:1≤w):pw w=2*pw (w - 1):=by
 have:=pw_succ (a:=w - 1) (by omega)
 rwa [show w - 1+1=w by omega] at this
theorem pw_rest {w:Int} (h:0≤w) (h':w≤64):pw w*pw (64 - w)=18446744073709551616:=by
 rw [←pw_add h (by omega),show w+(64 - w)=64 by omega,pw_64]
theorem pw_rest63 {w:Int} (h:1≤w) (h':w≤64):pw (w - 1)*pw (64 - w)=9223372036854775808:=by
 rw [←pw_add (by omega) (by omega),show w - 1+(64 - w)=63 by omega,pw_63]
theorem pw_mono {a b:Int} (ha:0≤a) (h:a≤b):pw a≤pw b:=by
 have:=pw_add (a:=a) (b:=b - a) ha (by omega)
 rw [show a+(b - a)=b by omega] at this
 rw [this]
 have h1:=pw_pos a
 have h2:=pw_pos (b - a)
 have:pw a*1≤pw a*pw (b - a):=Int.mul_le_mul_of_nonneg_left h2 (by omega)
 omega
theorem pw_le {w:Int} (h:0≤w) (h':w≤64):pw w≤18446744073709551616:=by
 rw [←pw_64];exact pw_mono h h'
theorem pw_le63 {w:Int} (h:0≤w) (h':w≤63):pw w≤9223372036854775808:=by
 rw [←pw_63];exact pw_mono h h'
def sg (M v:Int):Int:=if 2*(v % M)<M then v % M else v % M - M
def inR (M t:Int):Bool:=decide (-M≤2*t)&&decide (2*t<M)
theorem sg_in {H v:Int} (h:1≤H) : -H≤sg (2*H) v∧sg (2*H) v<H:=by
 have h1:=Int.emod_nonneg v (show 2*H≠0 by omega)
 have h2:=Int.emod_lt_of_pos v (show 0<2*H by omega)
 unfold sg;split<;>omega
theorem sg_of_mod {M v u:Int} (h:v % M=u % M):sg M v=sg M u:=by unfold sg;rw [h]
theorem sg_id {H t:Int} (h1 : -H≤t) (h2:t<H):sg (2*H) t=t:=by
 unfold sg
 rcases Int.lt_or_le t 0 with h|h
 ·have:t % (2*H)=t+2*H:=by
   rw [←Int.add_emod_right,Int.emod_eq_of_lt (by omega) (by omega)]
  rw [this];split<;>omega
 ·rw [Int.emod_eq_of_lt h (by omega)];split<;>omega
theorem sg_eq_iff {H t:Int} (h:1≤H):sg (2*H) t=t↔ -H≤t∧t<H :=
 ⟨fun e=>by have:=sg_in (v:=t) h;omega,fun⟨h1,h2⟩=>sg_id h1 h2⟩
theorem inR_iff {H t:Int}:inR (2*H) t=true↔ -H≤t∧t<H:=by
 simp only [inR,Bool.and_eq_true,decide_eq_true_eq];omega
theorem inR_sg_w {M H t:Int} (hM:M=2*H) (h:1≤H):inR M t=decide (sg M t=t):=by
 rw [hM,Bool.eq_iff_iff,inR_iff,decide_eq_true_eq,sg_eq_iff h]
theorem signed_law {w v : Int} (h1 : 1 ≤ w) (h2 : w ≤ 64) :
  (if 9223372036854775808≤v*pw (64 - w) % 18446744073709551616 then v*pw (64 - w) % 18446744073709551616 - 18446744073709551616 else v*pw (64 - w) % 18446744073709551616) / pw (64 - w)=sg (pw w) v:=by
 have hM:=pw_rest (w:=w) (by omega) h2
 have hH:=pw_rest63 h1 h2
 have hk:=pw_pos (64 - w)
 have hm:=pw_pos w
 have hh:=pw_half h1
 have e:v*pw (64 - w) % 18446744073709551616=(v % pw w)*pw (64 - w):=by
  rw [←hM,Int.mul_comm v,Int.mul_comm (pw w),Int.mul_emod_mul_of_pos _ _ (by omega),Int.mul_comm]
 simp only [e]
 unfold sg
 have hr:=Int.emod_nonneg v (show pw w≠0 by omega)
 generalize pw (64 - w)=K at *
 generalize v % pw w=r at *
 generalize pw (w - 1)=H at *
 rw [hh] at hM⊢
 by_cases hc:H≤r
 ·have : H * K ≤ r * K := Int.mul_le_mul_of_nonneg_right hc (by omega)
  rw [if_pos (by omega),if_neg (by omega),←hM,←Int.sub_mul,Int.mul_ediv_cancel _ (by omega)]
 ·have : (r + 1) * K ≤ H * K := Int.mul_le_mul_of_nonneg_right (by omega) (by omega)
  rw [Int.add_mul] at this
  rw [if_neg (by omega),if_pos (by omega),Int.mul_ediv_cancel _ (by omega)]
def w64 (n:Int):Int:=(n+9223372036854775808) % 18446744073709551616 - 9223372036854775808
theorem sg_w64 {w t:Int} (h1:1≤w) (h2:w≤64):sg (pw w) (w64 t)=sg (pw w) t:=by
 refine sg_of_mod ?_
 have hM:=pw_rest (w:=w) (by omega) h2
 have e:w64 t=t+pw w*(-(pw (64 - w))*((t+9223372036854775808) / 18446744073709551616)):=by
  unfold w64
  rw [←Int.mul_assoc,Int.mul_neg,hM]
  omega
 rw [e,Int.add_mul_emod_self_left]
theorem wid {w:Int} (h1:1≤w) (h2:w≤64):pw w=2*pw (w - 1)∧1≤pw (w - 1)∧(pw (w - 1)=9223372036854775808∨pw (w - 1)≤4611686018427387904):=by
 refine⟨pw_half h1,pw_pos _,?_⟩
 rcases Int.lt_or_le w 64 with h|h
 ·right
  have:pw 62=4611686018427387904:=by decide
  rw [←this];exact pw_mono (by omega) (by omega)
 ·left
  have:w=64:=by omega
  subst this;exact pw_63
theorem wraps_add {w x y : Int} (h1 : 1 ≤ w) (h2 : w ≤ 64) (hx : -pw (w - 1) ≤ x ∧ x < pw (w - 1)) (hy : -pw (w - 1) ≤ y ∧ y < pw (w - 1)) :
  ((decide (x > 0)&&decide (y > 0)&&decide (w64 (x+y)≤0))||(decide (x<0)&&decide (y<0)&&decide (w64 (x+y) ≥ 0))||(w64 (x+y) != sg (pw w) (w64 (x+y)))) = !inR (pw w) (x+y):=by
 obtain⟨hM,hH,hw⟩:=wid h1 h2
 have hs:=sg_w64 (t:=x+y) h1 h2
 rw [hs,inR_sg_w hM hH]
 have e:=sg_eq_iff (t:=x+y) hH
 rw [←hM] at e
 rw [Bool.eq_iff_iff]
 simp only [Bool.or_eq_true,Bool.and_eq_true,decide_eq_true_eq,bne_iff_ne,ne_eq,Bool.not_eq_true',decide_eq_false_iff_not]
 rw [e]
 generalize hg:sg (pw w) (x+y)=g at *
 have hgr:=sg_in (v:=x+y) hH
 rw [←hM,hg] at hgr
 unfold w64
 omega
structure Big where
 hi:Int
 lo:Int
 below:Bool
 deriving DecidableEq,Inhabited
def big (v:Int):Big:=⟨v.natAbs / 18446744073709551616,v.natAbs % 18446744073709551616,decide (v<0)⟩
theorem big_0 {n:Int} (h:0≤n) (h':n<18446744073709551616):big n=⟨0,n,false⟩:=by
 unfold big
 simp only [Big.mk.injEq,decide_eq_false_iff_not]
 omega
theorem big_neg {n:Int} (h:n<0) (h' : -18446744073709551616<n):big n=⟨0, -n,true⟩:=by
 unfold big
 simp only [Big.mk.injEq,decide_eq_true_eq]
 omega
def rcut (w v:Int):Int:=if 64≤w then v else v % pw w
theorem rcut_eq {w v:Int} (h:w≤64) (h0:0≤v) (hv:v<18446744073709551616):rcut w v=v % pw w:=by
 unfold rcut
 split
 ·have : w = 64 := by omega
  subst this
  rw [pw_64,Int.emod_eq_of_lt h0 hv]
 ·rfl
theorem with_law {w v : Int} (h1 : 1 ≤ w) (h2 : w ≤ 64) :
  (if v % pw w<pw (w - 1) then(⟨0,v % pw w,false⟩:Big) else⟨0,(0 - v % pw w) % 18446744073709551616 % pw w,true⟩)=big (sg (pw w) v):=by
 obtain⟨hM,hH,hw⟩:=wid h1 h2
 have hR:=pw_rest (w:=w) (by omega) h2
 have hr:=Int.emod_nonneg v (show pw w≠0 by omega)
 have hlt:=Int.emod_lt_of_pos v (show 0<pw w by omega)
 rw [Int.emod_emod_of_dvd _ ⟨_,hR.symm⟩]
 unfold sg
 split
 ·rw [if_pos (by omega),big_0 hr (by omega)]
 ·rw [if_neg (by omega), big_neg (by omega) (by omega)]
  congr 1
  rw [←Int.add_emod_right,Int.emod_eq_of_lt (by omega) (by omega)]
  omega
theorem wrapped_law {w t : Int} (h1 : 1 ≤ w) (h2 : w ≤ 64) :
  (if (big t).below=true then(0 - (big t).lo) % 18446744073709551616 % pw w else(big t).lo % pw w)=t % pw w:=by
 have hR:=pw_rest (w:=w) (by omega) h2
 simp only [big,decide_eq_true_eq]
 split
 ·rw [Int.emod_emod_of_dvd _ ⟨_, hR.symm⟩]
  have e:0 - (t.natAbs:Int) % 18446744073709551616=t+pw w*(pw (64 - w)*((t.natAbs:Int) / 18446744073709551616)):=by
   rw [←Int.mul_assoc,hR];omega
  rw [e,Int.add_mul_emod_self_left]
 ·have e:(t.natAbs:Int) % 18446744073709551616=t+pw w*(-(pw (64 - w))*((t.natAbs:Int) / 18446744073709551616)):=by
   rw [←Int.mul_assoc,Int.mul_neg,hR];omega
  rw [e,Int.add_mul_emod_self_left]
theorem wrap_u (n:Int):IntKind.u64.wrap n=n % 18446744073709551616:=IntKind.wrap_u64 n
theorem pw1 {w:Int} (h:1≤w):(2:Int) ^ (w.toNat - 1)=pw (w - 1):=by unfold pw;congr 1;omega
def maskS (w:Int):Int:=if w<1∨64<w then 0 else pw w - 1
def flagsOf (op:Int):Int:=if op=1∨op=2∨op=3∨op=11 then 3 else if op=4∨op=5∨op=12∨op=13 then 4 else 0
abbrev Big.v (b:Big):Value := .agg #[.int .u64 b.hi, .int .u64 b.lo, .bool b.below]
theorem rwidth_any (w:Int) (W:World):Calls Tryz.prog 143 #[.int .i64 w] W fun e w'=>e = .returned (.bool (decide (1≤w)&&decide (w≤64)))∧W=w':=by
 go_enter Tryz.func143,Tryz.ntmps143
 go_wp2
 all_goals go_ret
 all_goals exact⟨Z6 (by rw [Bool.eq_iff_iff];simp;omega),rfl⟩
theorem Ybv (w v:Int) (W:World) (h0:0≤w) (hv:0≤v∧v≤18446744073709551615):Calls Tryz.prog 144 #[.int .i64 w, .int .u64 v] W fun e w'=>e = .returned (.int .u64 (rcut w v))∧W=w':=by
 have hp:=pw_pos w
 by_cases h:64≤w
 ·have e : Hid (rcut w v = v) := hide (if_pos h)
  go_enter Tryz.func144,Tryz.ntmps144
  go_wp2
  go_ret
  exact⟨Ybk e.out.symm,rfl⟩
 ·have e : Hid (rcut w v = v % pw w) := hide (if_neg h)
  have hle:=pw_le63 (w:=w) h0 (by omega)
  have hk:IntKind.u64.wrap (2 ^ w.toNat)=2 ^ w.toNat:=by rw [wrap_u];show pw w % _=pw w;omega
  have hk0:(1:Int)≤2 ^ w.toNat:=hp
  have hk1:¬(2:Int) ^ w.toNat=0:=by omega
  go_enter Tryz.func144,Tryz.ntmps144
  go_wp2
  go_ret
  exact⟨Ybk e.out.symm,rfl⟩
theorem rhalf_any (w:Int) (W:World) (h1:1≤w) (h2:w≤64):Calls Tryz.prog 155 #[.int .i64 w] W fun e w'=>e = .returned (.int .u64 (pw (w - 1)))∧W=w':=by
 obtain⟨hM,hH,hw⟩:=wid h1 h2
 go_enter Tryz.func155,Tryz.ntmps155
 go_wp2
 go_ret
 exact⟨Ybk (by rw [pw1 h1,wrap_u];omega),rfl⟩
theorem rwith_any (w v:Int) (W:World) (h1:1≤w) (h2:w≤64) (hv:0≤v∧v≤18446744073709551615):Calls Tryz.prog 146 #[.int .i64 w, .int .u64 v] W fun e w'=>e = .returned (big (sg (pw w) v)).v∧Below W.heap.size W w':=by
 have hp:=pw_pos w
 have hle:=pw_le (w:=w) (by omega) h2
 have e0:=Int.emod_nonneg v (show pw w≠0 by omega)
 have e1:=Int.emod_lt_of_pos v (show 0<pw w by omega)
 have ec:Hid (rcut w v=v % pw w):=hide (rcut_eq h2 hv.1 (by omega))
 have hl:=with_law (v:=v) h1 h2
 obtain⟨u,hu⟩:∃u,u=(0 - v % pw w) % 18446744073709551616:=⟨_,rfl⟩
 have hu':IntKind.u64.wrap (-(v % pw w))=u:=by rw [hu,wrap_u,Int.zero_sub]
 have hb0:0≤u∧u≤18446744073709551615:=by omega
 rw [←hu] at hl
 have ed:Hid (rcut w u=u % pw w):=hide (rcut_eq h2 hb0.1 (by omega))
 clear hu
 have hv':0≤v % pw w∧v % pw w≤18446744073709551615:=by omega
 by_cases hc:v % pw w<pw (w - 1)
 ·rw [if_pos hc] at hl
  replace hl:=hide hl
  clear e0 e1 hp hle hb0 hu'
  go_enter Tryz.func146,Tryz.ntmps146
  go_wp2_with fail
  refine(Ybv w v _ (by omega) hv).mono ?_;rintro e w' ⟨rfl,rfl⟩
  rw [ec.out]
  go_wp2_with fail
  refine(rhalf_any w _ h1 h2).mono ?_;rintro e w' ⟨rfl,rfl⟩
  go_wp2
  refine bodyPost_ret (v:=(big (sg (pw w) v)).v) (by simp [results,Tryz.results146,go_sem,←hl.out]) rfl ⟨rfl,(Below.refl _ _).alloc (Nat.le_refl _) _⟩
 ·rw [if_neg hc] at hl
  replace hl:=hide hl
  clear e0 e1 hp hle
  go_enter Tryz.func146,Tryz.ntmps146
  go_wp2_with fail
  refine(Ybv w v _ (by omega) hv).mono ?_;rintro e w' ⟨rfl,rfl⟩
  rw [ec.out]
  go_wp2_with fail
  refine(rhalf_any w _ h1 h2).mono ?_;rintro e w' ⟨rfl,rfl⟩
  go_wp2_with fail
  refine(Ybv w u _ (by omega) hb0).mono ?_;rintro e w' ⟨rfl,rfl⟩
  rw [ed.out]
  go_wp2
  refine bodyPost_ret (v:=(big (sg (pw w) v)).v) (by simp [results,Tryz.results146,go_sem,←hl.out]) rfl ⟨rfl,(Below.refl _ _).alloc (Nat.le_refl _) _⟩
theorem rwrapped_any (w t:Int) (W:World) (h1:1≤w) (h2:w≤64):Calls Tryz.prog 145 #[.int .i64 w,(big t).v] W fun e w'=>e = .returned (.int .u64 (t % pw w))∧Below W.heap.size W w':=by
 have hl:=wrapped_law (t:=t) h1 h2
 have hlo:0≤(big t).lo∧(big t).lo≤18446744073709551615:=by simp only [big];omega
 obtain⟨u,hu⟩:∃u,u=(0 - (big t).lo) % 18446744073709551616:=⟨_,rfl⟩
 have hu':IntKind.u64.wrap (-(big t).lo)=u:=by rw [hu,wrap_u,Int.zero_sub]
 have hb0:0≤u∧u≤18446744073709551615:=by omega
 rw [←hu] at hl
 clear hu
 have e1:Hid (rcut w (big t).lo=(big t).lo % pw w):=hide (rcut_eq h2 hlo.1 (by omega))
 have e2:Hid (rcut w u=u % pw w):=hide (rcut_eq h2 hb0.1 (by omega))
 cases hc:(big t).below
 ·rw [if_neg (by rw [hc]; decide)] at hl
  replace hl:=hide hl
  go_enter Tryz.func145,Tryz.ntmps145
  go_wp2_with (go_at_call 144;refine(Ybv w (big t).lo _ (by omega) hlo).mono ?_;rintro e w' ⟨rfl,rfl⟩)
  go_ret
  exact⟨Ybk (e1.out.trans hl.out),(Below.refl _ _).alloc (Nat.le_refl _) _⟩
 ·rw [if_pos hc] at hl
  replace hl:=hide hl
  go_enter Tryz.func145,Tryz.ntmps145
  go_wp2_with (go_at_call 144;refine(Ybv w u _ (by omega) hb0).mono ?_;rintro e w' ⟨rfl,rfl⟩)
  go_ret
  exact⟨Ybk (e2.out.trans hl.out),(Below.refl _ _).alloc (Nat.le_refl _) _⟩
def convS8 (op fw tw v:Int):Int×Bool :=
 if fw<1∨64<fw∨tw<1∨64<tw then(0,false) else if op=20∧fw<tw then(v % pw fw,true) else if op=21∧fw<tw then(sg (pw fw) v % pw tw,true) else if op=22∧tw<fw then(v % pw tw,true) else(0,false)
def convV8 (p:Int×Bool):Value := .tuple #[.int .u64 p.1, .bool p.2]
theorem Yb9 {a:Int} {b:Bool} {p:Int×Bool} (h:p=(a,b)):Ending.returned (.tuple #[.int .u64 a, .bool b]) = .returned (convV8 p):=by rw [h];rfl
theorem wok_yes8 {w:Int} (h1:1≤w) (h2:w≤64):(decide (1≤w)&&decide (w≤64))=true:=by simp;omega
theorem wok_no8 {w:Int} (h:w<1∨64<w):(decide (1≤w)&&decide (w≤64))=false:=by rw [Bool.and_eq_false_iff];simp;omega
theorem Qg (w:Int) (b:Bool) (W:World) (hb:(decide (1≤w)&&decide (w≤64))=b):Calls Tryz.prog 143 #[.int .i64 w] W fun e w'=>e = .returned (.bool b)∧W=w':=by
 rw [←hb];exact rwidth_any w W
theorem rmask8_any (w:Int) (W:World):Calls Tryz.prog 123 #[.int .i64 w] W fun e w'=>e = .returned (.int .u64 (maskS w))∧W=w':=by
 by_cases h:w<1∨64<w
 ·have e : Hid (maskS w = 0) := hide (if_pos h)
  have hb:=hide (wok_no8 h)
  go_enter Tryz.func123,Tryz.ntmps123
  go_wp2_with fail
  refine(Qg w false _ hb.out).mono ?_;rintro e w' ⟨rfl,rfl⟩
  go_wp2
  go_ret
  exact⟨Ybk e.out.symm,rfl⟩
 ·have e : Hid (maskS w = pw w - 1) := hide (if_neg h)
  have h1:1≤w:=by omega
  have h2:w≤64:=by omega
  have hb:=hide (wok_yes8 h1 h2)
  have hR:=pw_rest (w:=w) (by omega) h2
  have hp:=pw_pos w
  have hc:Hid (rcut w 18446744073709551615=pw w - 1):=hide (by
   rw [rcut_eq h2 (by decide) (by decide)]
   have e1:(18446744073709551615:Int)=(pw w - 1)+pw w*(pw (64 - w) - 1):=by rw [Int.mul_sub,hR];omega
   rw [e1,Int.add_mul_emod_self_left,Int.emod_eq_of_lt (by omega) (by omega)])
  clear hR hp h
  go_enter Tryz.func123,Tryz.ntmps123
  go_wp2_with fail
  refine(Qg w true _ hb.out).mono ?_;rintro e w' ⟨rfl,rfl⟩
  go_wp2_with fail
  refine(Ybv w 18446744073709551615 _ (by omega) (by decide)).mono ?_;rintro e w' ⟨rfl,rfl⟩
  go_wp2
  go_ret
  exact⟨Ybk (hc.out.trans e.out.symm),rfl⟩
theorem rconv8_any (op fw tw v : Int) (W : World) (hv : 0 ≤ v ∧ v ≤ 18446744073709551615) :
  Calls Tryz.prog 120 #[.int .i64 op, .int .i64 fw, .int .i64 tw, .int .u64 v] W fun e w'=>e = .returned (.tuple #[.int .u64 (convS8 op fw tw v).1, .bool (convS8 op fw tw v).2])∧Below W.heap.size W w':=by
 by_cases h:fw<1∨64<fw∨tw<1∨64<tw
 ·have e0 : Hid (convS8 op fw tw v = (0, false)) := hide (if_pos h)
  by_cases g:fw<1∨64<fw
  ·have b1 := hide (wok_no8 g)
   clear h g
   go_enter Tryz.func120,Tryz.ntmps120
   go_wp2_with fail
   refine(Qg fw false _ b1.out).mono ?_;rintro e w' ⟨rfl,rfl⟩
   go_wp2
   go_ret2
   exact⟨Yb9 e0.out,Below.refl _ _⟩
  ·have b1 := hide (wok_yes8 (w := fw) (by omega) (by omega))
   have b2:=hide (wok_no8 (w:=tw) (by omega))
   clear h g
   go_enter Tryz.func120,Tryz.ntmps120
   go_wp2_with fail
   refine(Qg fw true _ b1.out).mono ?_;rintro e w' ⟨rfl,rfl⟩
   go_wp2_with fail
   refine(Qg tw false _ b2.out).mono ?_;rintro e w' ⟨rfl,rfl⟩
   go_wp2
   go_ret2
   exact⟨Yb9 e0.out,Below.refl _ _⟩
 ·have e0 : convS8 op fw tw v = if op = 20 ∧ fw < tw then (v % pw fw, true) else if op = 21 ∧ fw < tw then (sg (pw fw) v % pw tw, true) else if op = 22 ∧ tw < fw then (v % pw tw, true) else (0, false) := if_neg h
  have h1:1≤fw:=by omega
  have h2:fw≤64:=by omega
  have h3:1≤tw:=by omega
  have h4:tw≤64:=by omega
  have b1:=hide (wok_yes8 h1 h2)
  have b2:=hide (wok_yes8 h3 h4)
  have r1:Hid (rcut fw v=v % pw fw):=hide (rcut_eq h2 hv.1 (by omega))
  have r2:Hid (rcut tw v=v % pw tw):=hide (rcut_eq h4 hv.1 (by omega))
  replace hv:=hide hv
  clear h
  by_cases g1:op=20∧fw<tw
  ·rw [if_pos g1, ← r1.out] at e0
   obtain⟨rfl,g⟩:=g1
   replace e0:=hide e0
   go_enter Tryz.func120,Tryz.ntmps120
   go_wp2_with fail
   refine(Qg fw true _ b1.out).mono ?_;rintro e w' ⟨rfl,rfl⟩
   go_wp2_with fail
   refine(Qg tw true _ b2.out).mono ?_;rintro e w' ⟨rfl,rfl⟩
   go_wp2_with fail
   refine(Ybv fw v _ (by omega) hv.out).mono ?_;rintro e w' ⟨rfl,rfl⟩
   go_wp2
   go_ret2
   exact⟨Yb9 e0.out,Below.refl _ _⟩
  ·rw [if_neg g1] at e0
   by_cases g2:op=21∧fw<tw
   ·rw [if_pos g2] at e0
    obtain⟨rfl,g⟩:=g2
    replace e0:=hide e0
    clear g1
    go_enter Tryz.func120,Tryz.ntmps120
    go_wp2_with fail
    refine(Qg fw true _ b1.out).mono ?_;rintro e w' ⟨rfl,rfl⟩
    go_wp2_with fail
    refine(Qg tw true _ b2.out).mono ?_;rintro e w' ⟨rfl,rfl⟩
    go_wp2_with fail
    refine(rwith_any fw v _ h1 h2 hv.out).mono ?_;rintro e w1 ⟨rfl,hx1⟩
    replace hx1:=hide hx1
    go_wp2_with fail
    refine(rwrapped_any tw (sg (pw fw) v) _ h3 h4).mono ?_;rintro e w2 ⟨rfl,hx2⟩
    replace hx2:=hide hx2
    go_wp2
    go_ret2
    exact⟨Yb9 e0.out,hx1.out.trans (hx2.out.mono hx1.out.size)⟩
   ·rw [if_neg g2] at e0
    by_cases g3:op=22∧tw<fw
    ·rw [if_pos g3, ← r2.out] at e0
     obtain⟨rfl,g⟩:=g3
     replace e0:=hide e0
     clear g1 g2
     go_enter Tryz.func120,Tryz.ntmps120
     go_wp2_with fail
     refine(Qg fw true _ b1.out).mono ?_;rintro e w' ⟨rfl,rfl⟩
     go_wp2_with fail
     refine(Qg tw true _ b2.out).mono ?_;rintro e w' ⟨rfl,rfl⟩
     go_wp2_with fail
     refine(Ybv tw v _ (by omega) hv.out).mono ?_;rintro e w' ⟨rfl,rfl⟩
     go_wp2
     go_ret2
     exact⟨Yb9 e0.out,Below.refl _ _⟩
    ·rw [if_neg g3] at e0
     replace e0:=hide e0
     have c1:((op==20)&&decide (fw<tw))=false:=by rw [Bool.and_eq_false_iff];simp;omega
     have c2:((op==21)&&decide (fw<tw))=false:=by rw [Bool.and_eq_false_iff];simp;omega
     have c3:((op==22)&&decide (tw<fw))=false:=by rw [Bool.and_eq_false_iff];simp;omega
     refine hd3 g1 g2 g3 ?_;clear g1 g2 g3;intro g1 g2 g3
     cases d1:(op==20)
     all_goals cases d2:(op==21)
     all_goals cases d3:(op==22)
     all_goals cases d4:decide (fw<tw)
     all_goals cases d5:decide (tw<fw)
     all_goals first
      | (exfalso;rw [d1,d4] at c1;cases c1;done)
      | (exfalso;rw [d2,d4] at c2;cases c2;done)
      | (exfalso;rw [d3,d5] at c3;cases c3;done)
      | (clear c1 c2 c3
         go_enter Tryz.func120,Tryz.ntmps120
         go_wp2_with fail
         refine(Qg fw true _ b1.out).mono ?_;rintro e w' ⟨rfl,rfl⟩
         go_wp2_with fail
         refine(Qg tw true _ b2.out).mono ?_;rintro e w' ⟨rfl,rfl⟩
         go_wp2
         all_goals go_ret2
         all_goals exact⟨Yb9 e0.out,Below.refl _ _⟩)
theorem rflags8_any (op:Int) (W:World):Calls Tryz.prog 91 #[.int .i64 op] W fun e w'=>e = .returned (.int .i64 (flagsOf op))∧W=w':=by
 go_enter Tryz.func91,Tryz.ntmps91
 go_wp2
 all_goals go_ret
 all_goals
  refine⟨Ybk ?_,rfl⟩
  unfold flagsOf
  try simp at *
  (repeat' split)<;>omega
def Zu (m:Mod) (n:Int):List Int×Int×Bool :=
 if 0≤n then(match m.funcs[n.toNat]? with
  | some f=>(f.params,f.ret,true)
  | none=>([],0,false))
 else(match m.exts[(-1 - n).toNat]? with
  | some x=>(x.params,x.ret,true)
  | none=>([],0,false))
def Ybp (m:Mod) (n:Int) (B:Nat) (w:World) (e:Ending) (w':World):Prop:=∃v,e = .returned (.tuple #[v, .int .i64 (Zu m n).2.1, .bool (Zu m n).2.2])∧Z4.rep w' B [v] (Zu m n).1∧Below w.heap.size w w'
theorem rcallee_any (m : Mod) (n : Int) (c1 d1 e1 : Value) (w : World) (B : Nat) (hB : B ≤ w.heap.size) (ha : RMod.rep w B [c1, d1, e1] m) (hn : -9223372036854775808 ≤ n ∧ n ≤ 9223372036854775807) :
  Calls Tryz.prog 121 #[m.v c1 d1 e1, .int .i64 n] w (Ybp m n B w):=by
 obtain⟨-,hax,haf⟩:=Yby ha
 obtain⟨A3,k3,rfl,hl3,gx⟩:=exts_at hax
 obtain⟨A5,k5,rfl,hl5,gf⟩:=funs_at haf
 clear ha hax haf
 obtain⟨n3,hn3⟩:∃n,Hid (n=m.exts.length):=⟨_,hide rfl⟩
 obtain⟨n5,hn5⟩:∃n,Hid (n=m.funcs.length):=⟨_,hide rfl⟩
 rw [←hn3.out] at hl3⊢
 rw [←hn5.out] at hl5⊢
 obtain⟨W,hW,hwW,hWs,hx⟩:=Y6 w #[c1, .slice A3 n3 k3, .slice A5 n5 k5] 26
 have x1:=hx 1 _ rfl
 have x2:=hx 2 _ rfl
 clear hx
 have hws:w.heap.size≤W.heap.size:=by omega
 refine hd3 hWs gx gf ?_;clear hWs gx gf;intro hWs gx gf
 have hself:=Below.refl W.heap.size W
 refine hd2 hW hwW ?_;clear hW hwW;intro hW hwW
 by_cases h0:0≤n
 ·obtain ⟨k, rfl⟩ := Int.eq_ofNat_of_zero_le h0
  by_cases hlt:k<n5
  ·obtain ⟨f, hf⟩ := Yf (l := m.funcs) (k := k) (by rw [← hn5.out]; exact hlt)
   have hcs:Hid (Zu m k=(f.params,f.ret,true)):=hide (by unfold Zu;rw [if_pos h0,Int.toNat_natCast,hf.out])
   obtain⟨q,o,rfl,he⟩:=gf.out (by rw [←hn5.out];omega)
   obtain⟨ca,ea,hra,hc⟩:=he k f hf.out
   obtain⟨a0,a1,a2,a3⟩:=(hc.later (hwW.out.mono hB) (Nat.le_trans hB hws)).four
   have hrp:=hide (Yk hra).1
   clear he hc hra
   go_enter Tryz.func121,Tryz.ntmps121
   go_upto_region 1 with(fail)
   rw [hW.out]
   clear hW
   go_wp2_with fail
   go_quiet (fail)
   go_wp2
   go_ret3
   have hb9:=fun q=>hwW.out.trans ((Yi hself q).mono hws)
   exact⟨ca,by rw [hcs.out];rfl,by rw [hcs.out];exact Z4.below hrp.out ((hb9 _).mono hB),hb9 _⟩
  ·have hcs : Hid (Zu m k = ([], 0, false)) := hide (by unfold Zu; rw [if_pos h0, Int.toNat_natCast, List.getElem?_eq_none (by rw [← hn5.out]; omega)])
   have hk2:¬((k:Int)<(n5:Int)):=by omega
   have hk3:¬((k:Int)<0):=by omega
   go_enter Tryz.func121,Tryz.ntmps121
   go_upto_region 1 with(fail)
   rw [hW.out]
   clear hW
   go_wp2
   go_ret3
   exact⟨_,by rw [hcs.out];rfl,by rw [hcs.out];exact Rp.nil_rep,hwW.out⟩
 ·obtain ⟨k, hk⟩ : ∃ k : Nat, n = -1 - (k : Int) := ⟨(-1 - n).toNat, by omega⟩
  subst hk
  have e3:(-1 - (k:Int) ≥ 0)=False:=by simp;omega
  have e4:(-1 - (k:Int))<0:=by omega
  have e5 : -1 - (-1 - (k:Int))=(k:Int):=by omega
  by_cases hlt:k<n3
  ·obtain ⟨f, hf⟩ := Yf (l := m.exts) (k := k) (by rw [← hn3.out]; exact hlt)
   have hcs:Hid (Zu m (-1 - (k:Int))=(f.params,f.ret,true)):=hide (by unfold Zu;rw [if_neg h0,show(-1 - (-1 - (k:Int))).toNat=k by omega,hf.out])
   obtain⟨q,o,rfl,he⟩:=gx.out (by rw [←hn3.out];omega)
   obtain⟨ca,hra, -,hc⟩:=he k f hf.out
   obtain⟨a0,a1,a2⟩:=(hc.later (hwW.out.mono hB) (Nat.le_trans hB hws)).three
   replace hra:=hide hra
   clear he hc
   have e6 : -(n3:Int)≤ -1 - (k:Int):=by omega
   go_enter Tryz.func121,Tryz.ntmps121
   go_upto_region 1 with(fail)
   rw [hW.out]
   clear hW
   go_wp2_with fail
   go_quiet (fail)
   go_wp2
   go_ret3
   have hb9:=fun q=>hwW.out.trans ((Yi hself q).mono hws)
   exact⟨ca,by rw [hcs.out];rfl,by rw [hcs.out];exact Z4.below hra.out ((hb9 _).mono hB),hb9 _⟩
  ·have hcs : Hid (Zu m (-1 - (k : Int)) = ([], 0, false)) := hide (by unfold Zu; rw [if_neg h0, show (-1 - (-1 - (k : Int))).toNat = k by omega, List.getElem?_eq_none (by rw [← hn3.out]; omega)])
   have e6:¬(-(n3:Int)≤ -1 - (k:Int)):=by omega
   go_enter Tryz.func121,Tryz.ntmps121
   go_upto_region 1 with(fail)
   rw [hW.out]
   clear hW
   go_wp2
   go_ret3
   exact⟨_,by rw [hcs.out];rfl,by rw [hcs.out];exact Rp.nil_rep,hwW.out⟩
end Go.Proofs.YtamjcafjdioidaaGreat
