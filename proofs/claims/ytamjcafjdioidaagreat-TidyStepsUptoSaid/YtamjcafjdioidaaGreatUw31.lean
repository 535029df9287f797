/- Texts of the chain, without what is not wanted: VrP, DoH. No condition but sizes. -/
import Derived.Test.YtamjcafjdioidaaGreatUw30
set_option linter.unusedVariables false
set_option linter.unusedSimpArgs false
set_option maxRecDepth 100000
set_option maxHeartbeats 12800000
namespace Go.Proofs.YtamjcafjdioidaaGreat
open Go.RowKit
def OpdsAt (m:Mod) (f:Fun) (x:Ins) (p:Plc):Prop:=∀(k:Nat) v,x.args[k]? = some v→OpdOk m f v (wantedS m x k)
def OpdsOk (m:Mod) (f:Fun):Prop:=AllAt f (OpdsAt m f)
theorem operands08_any (m : Mod) (f : Fun) (n : Int) (m1 m2 m3 c1 c2 : Value) (w : World) (B : Nat) (hB : B ≤ w.heap.size) (ha : RMod.rep w B [m1, m2, m3] m) (hf : RFun.rep w B [.string f.name, c1, .int .i64 f.ret, c2] f) (hsz : Ybo f ≤ 2000000) (hfo : FormsOk m f) :
  Calls Tryz.prog 49 #[m.v m1 m2 m3,f.v c1 c2, .int .i64 n] w (Z2 (OpdsOk m f) w):=by
 have hs:Zo f:=Ybu hsz
 obtain⟨PP,hPP⟩:∃PP:Prop,Hid (PP=OpdsOk m f):=⟨_,hide rfl⟩
 rw [←hPP.out]
 have hv1m:∀M1 v1 j1,m1 = .slice M1 v1 j1→v1=m.vars.length:=fun M1 v1 j1 h=>by
  obtain⟨A,k,e1, -, -⟩:=Rp.slice_open (Yby ha).1
  rw [h] at e1
  cases e1;rfl
 obtain⟨hp,hb⟩:=Yk (RFun.later hf (Below.refl _ _) hB)
 obtain⟨A1,k1,h1,hm1,gp⟩:=Rp.slice1_open hp
 obtain⟨A2,k2,h2,hm2,gb⟩:=Rp.slice1_open hb
 cases h1;cases h2
 refine hd2 gp gb ?_;clear gp gb;intro gp gb
 clear hp hb
 obtain⟨M1,v1,j1,M2,v2,j2,M3,v3,j3,hmf⟩:=Ycc ha
 obtain⟨e1,e2,e3⟩:=hmf
 subst e1 e2 e3
 obtain⟨N,hN⟩:=Jn (f.blocks.length)
 obtain⟨np,hnp⟩:=Jn (f.params.length)
 have hNle:N≤2000000:=by rw [hN.out];exact hs.blocks
 rw [←hN.out,←hnp.out] at hf⊢
 rw [←hN.out] at hm2
 rw [←hnp.out] at hm1
 obtain⟨W,hW,hwW,hWs,hu,hx,hy⟩:=boxes3 w #[.slice M1 v1 j1, .slice M2 v2 j2, .slice M3 v3 j3] #[.string f.name, .slice A1 np k1, .int .i64 f.ret, .slice A2 N k2] #[.int .i64 0, .int .i64 0, .int .i64 0, .int .i64 0] 26 32 50
 have p0:∀w',Below W.heap.size W w'→w'.cell? ⟨w.heap.size,0,none⟩=some (.slice M1 v1 j1):=hu 0 _ rfl
 have p1:∀w',Below W.heap.size W w'→w'.cell? ⟨w.heap.size,1,none⟩=some (.slice M2 v2 j2):=hu 1 _ rfl
 have p2:∀w',Below W.heap.size W w'→w'.cell? ⟨w.heap.size,2,none⟩=some (.slice M3 v3 j3):=hu 2 _ rfl
 have q0:∀w',Below W.heap.size W w'→w'.cell? ⟨w.heap.size+1,0,none⟩=some (.string f.name):=hx 0 _ rfl
 have q1:∀w',Below W.heap.size W w'→w'.cell? ⟨w.heap.size+1,1,none⟩=some (.slice A1 np k1):=hx 1 _ rfl
 have q2:∀w',Below W.heap.size W w'→w'.cell? ⟨w.heap.size+1,2,none⟩=some (.int .i64 f.ret):=hx 2 _ rfl
 have q3:∀w',Below W.heap.size W w'→w'.cell? ⟨w.heap.size+1,3,none⟩=some (.slice A2 N k2):=hx 3 _ rfl
 obtain⟨R,hRd⟩:=Jn (w.heap.size+1+1)
 have hR:Hid (W.heap[R]? = some (.cells #[.int .i64 0, .int .i64 0, .int .i64 0, .int .i64 0] 50 (0,0))):=hide (by
  rw [hRd.out,←hW]
  have:=Yu ((w.alloc (.cells #[.slice M1 v1 j1, .slice M2 v2 j2, .slice M3 v3 j3] 26)).alloc (.cells #[.string f.name, .slice A1 np k1, .int .i64 f.ret, .slice A2 N k2] 32)) (.cells #[.int .i64 0, .int .i64 0, .int .i64 0, .int .i64 0] 50)
  simpa using this)
 have hRW:R<W.heap.size:=by have:=hRd.out;omega
 have hRw:Hid (w.heap.size≤R):=hide (by have:=hRd.out;omega)
 clear hu hx hy
 have hws:w.heap.size≤W.heap.size:=by omega
 have hwX:Hid (∀w',Below W.heap.size W w'→Below w.heap.size w w'):=hide (fun w' h=>hwW.trans (h.mono hws))
 have hF:Hid (∀w',Below W.heap.size W w'→RFun.rep w' w'.heap.size [.string f.name, .slice A1 np k1, .int .i64 f.ret, .slice A2 N k2] f):=hide (fun w' h=>RFun.later hf ((hwX.out w' h).mono hB) (Nat.le_trans hB (hwX.out w' h).size))
 have hMo:Hid (∀w',Below W.heap.size W w'→RMod.rep w' w'.heap.size [.slice M1 v1 j1, .slice M2 v2 j2, .slice M3 v3 j3] m):=hide (fun w' h=>RMod.later ha ((hwX.out w' h).mono hB) (Nat.le_trans hB (hwX.out w' h).size))
 replace ha:=hide ha
 have hv1:Hid (v1=m.vars.length):=hide (hv1m _ _ _ rfl)
 clear hv1m
 have hCo:Hid (∀w',Below W.heap.size W w'→Calls Tryz.prog 68 #[f.v (.slice A1 np k1) (.slice A2 N k2)] w' (CodePost f w')):=hide (fun w' h=>Yb1 f _ _ w' w'.heap.size (Nat.le_refl _) (Yk (hF.out w' h)).1 (Yk (hF.out w' h)).2 (by have:=Yac f;omega))
 have hzb:Hid (∀x,x∈f.blocks→x.length≤2000000):=hide (fun x hx=>(hs.code x hx).1)
 refine hd3 hs hf hWs ?_;clear hs hf hWs;intro hs hf hWs
 have hself:=Below.refl W.heap.size W
 refine hd2 hW hwW ?_;clear hW hwW;intro hW hwW
 go_enter Tryz.func49,Tryz.ntmps49
 go_upto_region 1 with(fail)
 rw [hW.out,←hRd.out]
 clear hW
 go_wp2_with (fail)
 refine(hCo.out _ hself).mono ?_
 rintro e V0 ⟨vl,vp,rfl,hb0,hl,hpl⟩
 obtain⟨A3,k3,h3,hm3,gl⟩:=Rp.slice_open hl
 obtain⟨A4,k4,h4,hm4,gpl⟩:=Rp.slice_open hpl
 cases h3;cases h4
 have hpp:(Yl f.blocks f.blocks.length 0).length=f.blocks.flatten.length:=by rw [Zk _ _ (.inl rfl) (Nat.le_refl _),Z3]
 have hbV0:=hself.trans (hb0.mono hself.size)
 refine hd2 gl gpl ?_;clear gl gpl;intro gl gpl
 obtain⟨l,hll⟩:∃l:List Ins,Hid (l=f.blocks.flatten):=⟨_,hide rfl⟩
 obtain⟨pl,hpll⟩:∃pl:List Plc,Hid (pl=Yl f.blocks f.blocks.length 0):=⟨_,hide rfl⟩
 rw [←hll.out] at gl hpp hm3⊢
 rw [←hpll.out] at gpl hpp hm4⊢
 obtain⟨nl,hnl⟩:=Jn (l.length)
 rw [hpp,←hnl.out] at gpl hm4⊢
 rw [←hnl.out] at gl hm3
 have hpl2:Hid (pl.length=nl):=hide (by rw [hpp,hnl.out])
 clear hl hpl hpp hb0
 have hPP:Hid (PP=∀(i:Nat) x p,l[i]? = some x→pl[i]? = some p→OpdsAt m f x p):=hide (by rw [hPP.out,hll.out,hpll.out];rfl)
 have hfo:Hid (∀(i:Nat) x p,l[i]? = some x→pl[i]? = some p→FormOk m f.ret x p.blk):=hide (by rw [hll.out,hpll.out];exact hfo)
 have hnl2:nl≤2000000:=by have h1:=Yac f;rw [hnl.out,hll.out];omega
 have hself0:=Below.refl V0.heap.size V0
 have hok0:Hid (∀(j:Nat) x p,j<0→l[j]? = some x→pl[j]? = some p→OpdsAt m f x p):=hide (fun j x p h=>by omega)
 have h0W:Hid (∀w',Below V0.heap.size V0 w'→Below W.heap.size W w'):=hide (fun w' h=>hbV0.trans (h.mono hbV0.size))
 have pp0:∀w',Below V0.heap.size V0 w'→w'.cell? ⟨w.heap.size,0,none⟩=some (.slice M1 v1 j1):=fun w' h=>p0 w' (h0W.out w' h)
 have pp1:∀w',Below V0.heap.size V0 w'→w'.cell? ⟨w.heap.size,1,none⟩=some (.slice M2 v2 j2):=fun w' h=>p1 w' (h0W.out w' h)
 have pp2:∀w',Below V0.heap.size V0 w'→w'.cell? ⟨w.heap.size,2,none⟩=some (.slice M3 v3 j3):=fun w' h=>p2 w' (h0W.out w' h)
 have qq0:∀w',Below V0.heap.size V0 w'→w'.cell? ⟨w.heap.size+1,0,none⟩=some (.string f.name):=fun w' h=>q0 w' (h0W.out w' h)
 have qq1:∀w',Below V0.heap.size V0 w'→w'.cell? ⟨w.heap.size+1,1,none⟩=some (.slice A1 np k1):=fun w' h=>q1 w' (h0W.out w' h)
 have qq2:∀w',Below V0.heap.size V0 w'→w'.cell? ⟨w.heap.size+1,2,none⟩=some (.int .i64 f.ret):=fun w' h=>q2 w' (h0W.out w' h)
 have qq3:∀w',Below V0.heap.size V0 w'→w'.cell? ⟨w.heap.size+1,3,none⟩=some (.slice A2 N k2):=fun w' h=>q3 w' (h0W.out w' h)
 clear p0 p1 p2 q0 q1 q2 q3 hself hbV0
 go_wp2
 go_loopw [9,10,11] (fun s9 _ _ wr=>∃i:Nat,s9 = .int .i64 i∧i≤nl∧Hid (∀(j:Nat) x p,j<i→l[j]? = some x→pl[j]? = some p→OpdsAt m f x p)∧Below V0.heap.size V0 wr) (fun s9 _ _ _=>nl - (intOf s9).toNat)
 case atStart=>exact⟨0,rfl,Nat.zero_le _,hok0,hself0⟩
 case round =>
  clear hok0 hself0
  rename World=>V
  obtain⟨i,rfl,hi,hok,hbel0⟩:=hrel
  have hVs:=hbel0.size
  by_cases hlt:i<nl
  ·have hii : (i : Int) < (nl : Int) := by omega
   obtain⟨x,hx⟩:=Yf (l:=l) (k:=i) (by rw [←hnl.out];exact hlt)
   obtain⟨p,hp⟩:=Yf (l:=pl) (k:=i) (by rw [hpl2.out];exact hlt)
   obtain⟨b3,o3,hA3,he3⟩:=gl.out (by omega)
   subst hA3
   obtain⟨b4,o4,hA4,he4⟩:=gpl.out (by omega)
   subst hA4
   obtain⟨_,_,⟨a1',a2',rfl,hra,hrt, -,hI2,hI3,hI4,hI5⟩,hcx⟩:=he3 i x hx.out
   obtain⟨A5,k5,h5,hm5,ga⟩:=Rp.slice_open hra
   obtain⟨A6,k6,h6,hm6,gt⟩:=Rp.slice1_open hrt
   cases h5;cases h6
   refine hd2 ga gt ?_;clear ga gt;intro ga gt
   obtain⟨es4,hel4,hr4,hcp⟩:=he4 i p hp.out
   have hr4:=hr4.1
   subst hr4
   obtain⟨x0,x1,x2,x3,x4,x5,x6⟩:=hcx.seven
   obtain⟨t0,t1,t2⟩:=hcp.three
   clear he3 he4 hcx hcp hra hrt hel4
   obtain⟨na,hna⟩:=Jn (x.args.length)
   obtain⟨nt,hnt⟩:=Jn (x.to.length)
   rw [←hna.out] at hm5 x5
   rw [←hnt.out] at hm6 x6
   have hcal:Hid (∀k:Nat,k<na→x.op=30→k<(Zu m x.num).1.length):=hide (fun k hk ho=>by
    obtain⟨-, -,h9⟩:=hfo.out i x p hx.out hp.out
    unfold TypedOk at h9
    rw [if_neg (by unfold convB;rw [ho];simp),if_pos ho] at h9
    rw [h9.2.2,←hna.out]
    exact hk)
   have hselfi:=hbel0
   have hoki:Hid (∀(j:Nat) v,j<0→x.args[j]? = some v→OpdOk m f v (wantedS m x j)):=hide (fun j v h=>by omega)
   clear hbel0 hVs
   go_wp2
   go_loopw [10,11] (fun s10 _ wr=>∃k:Nat,s10 = .int .i64 k∧k≤na∧Hid (∀(j:Nat) v,j<k→x.args[j]? = some v→OpdOk m f v (wantedS m x j))∧Below V0.heap.size V0 wr) (fun s10 _ _=>na - (intOf s10).toNat)
   case atStart=>exact⟨0,rfl,Nat.zero_le _,hoki,hselfi⟩
   case round =>
    clear hoki hselfi
    rename World=>Y
    obtain⟨k,rfl,hk,hokk,hbY⟩:=hrel
    have hYs:=hbY.size
    have hbYW:=h0W.out Y hbY
    by_cases hltk:k<na
    ·have hkk : (k : Int) < (na : Int) := by omega
     obtain⟨v,hv⟩:=Yf (l:=x.args) (k:=k) (by rw [←hna.out];exact hltk)
     obtain⟨b5,o5,hA5,he5⟩:=ga.out (by rw [←hna.out];omega)
     subst hA5
     obtain⟨es5,hel5,hr5,hc5⟩:=he5 k v hv.out
     have hr5:=hr5.1
     subst hr5
     obtain⟨s0,s1,s2⟩:=hc5.three
     clear he5 hc5 hel5
     obtain⟨want,hwt⟩:∃want,Hid (wantedS m x k=want):=⟨_,hide rfl⟩
     have cWa:Hid (∀w',Below V0.heap.size V0 w'→Calls Tryz.prog 96 #[m.v (.slice M1 v1 j1) (.slice M2 v2 j2) (.slice M3 v3 j3),x.v (.slice (some ⟨b5,o5,none⟩) na k5) (.slice A6 nt k6), .int .i64 k] w' fun e w''=>e = .returned (.int .i64 want)∧Below w'.heap.size w' w''):=hide (fun w' h=>by
      have:=wanted_any m x k M1 M2 M3 (some ⟨b5,o5,none⟩) A6 v1 v2 v3 j1 j2 j3 na nt k5 k6 w' w'.heap.size (Nat.le_refl _) (hMo.out w' (h0W.out w' h)) (i64_in8 hI4) (hcal.out k hltk)
      rwa [hwt.out] at this)
     have cOp:Hid (∀w',Below V0.heap.size V0 w'→Calls Tryz.prog 95 #[m.v (.slice M1 v1 j1) (.slice M2 v2 j2) (.slice M3 v3 j3),f.v (.slice A1 np k1) (.slice A2 N k2), .agg #[.int .i64 v.kind, .int .i64 v.num, .int .u64 v.bits], .int .i64 want] w' (Yz (OpdOk m f v want) w')):=hide (fun w' h=>operand_any m f v want M1 M2 M3 A1 A2 v1 v2 v3 j1 j2 j3 np k1 N k2 w' w'.heap.size (Nat.le_refl _) hv1.out (hF.out w' (h0W.out w' h)) hsz)
     have hno:Hid (¬OpdOk m f v want→¬PP):=hide (fun h1 h2=>h1 (by rw [hPP.out] at h2;rw [←hwt.out];exact h2 i x p hx.out hp.out k v hv.out))
     have hbd:=hbY.drew
     go_upto_region 8 with(fail)
     go_region_held3 (fun w' => Below V0.heap.size V0 w') (first | (with_reducible assumption) | exact hbd)
      (first
       | (go_at_call 95;refine(cOp.out _ hk1).mono ?_;rintro e X2 ⟨ec,rfl,hec,hb⟩;have hk2:Below V0.heap.size V0 X2:=hk1.trans (hb.mono hk1.size);clear hb)
       | (go_at_call 96;refine(cWa.out _ hbd).mono ?_;rintro e X1 ⟨rfl,hb⟩;have hk1:Below V0.heap.size V0 X1:=hbd.trans (hb.mono hbd.size);clear hb))
     have hbel2:=h0W.out X2 hk2
     by_cases hc0:ec=0
     ·have e1 : (ec != 0) = false := by rw [hc0]; rfl
      have hnx:Hid (∀(j:Nat) v,j<k+1→x.args[j]? = some v→OpdOk m f v (wantedS m x j)):=hide (fun j u hj hu=>by
       rcases Nat.lt_succ_iff_lt_or_eq.1 hj with h|h
       ·exact hokk.out j u h hu
       ·subst h
        rw [hv.out] at hu
        cases hu
        rw [hwt.out]
        exact hec.1 hc0)
      refine hd2 hc0 hec ?_;clear hc0 hec;intro hc0 hec
      go_wp2
      go_roundw
      case rel=>exact⟨k+1,by go_num,hltk,hnx,hk2⟩
      case measure=>simp [intOf];omega
     ·have e1 : (ec != 0) = true := by simpa using hc0
      have hfx:Hid (ec=0↔PP):=hide ⟨fun h=>absurd h hc0,fun h=>absurd h (hno.out fun h9=>hc0 (hec.2 h9))⟩
      refine hd2 hc0 hec ?_;clear hc0 hec;intro hc0 hec
      go_upto_region 10 with(fail)
      have hbe:=hbel2.drew
      go_still_tail 12,(by kernel_rfl)
      change wpList _ _ _ _ _ X2.drew
      go_wp2_with (fail)
      refine(Zc _ _ _ _ _).mono ?_
      rintro e X9 ⟨rfl,hb9⟩
      have hk9:Below W.heap.size W X9:=hbe.trans (hb9.mono hbe.size)
      have hR9:X9.heap[R]? = _:=(hk9.block R hRW).trans hR.out
      obtain⟨z0,z1,z2,z3⟩:=Zz hR9
      obtain⟨f0,f1,f2,f3⟩:=Yj hR9
      go_wp2
      refine Yp (c:=ec) (k:=(n)) (b:=p.blk) (i:=p.pos) ?_ (by rfl) hfx.out (Zs (hwX.out X9 hk9) hRw.out)
      obtain⟨y0,y1,y2,y3⟩:=Zq (u0 := .int .i64 (ec)) (u1 := .int .i64 (n)) (u2 := .int .i64 (p.blk)) (u3 := .int .i64 (p.pos)) hR9
      simp [results,Tryz.results49,go_sem,y0,y1,y2,y3]
    ·have hnx:Hid (∀(j:Nat) x p,j<i+1→l[j]? = some x→pl[j]? = some p→OpdsAt m f x p):=hide (fun j y q hj hy hq=>by
      rcases Nat.lt_succ_iff_lt_or_eq.1 hj with h|h
      ·exact hok.out j y q h hy hq
      ·subst h
       rw [hx.out] at hy
       rw [hp.out] at hq
       cases hy;cases hq
       exact fun k' v hv=>hokk.out k' v (by have:=(Js.1 hv).1;have:=hna.out;omega) hv)
     go_wp2
     go_roundw
     case rel=>exact⟨i+1,by go_num,hlt,hnx,hbY⟩
     case measure=>simp [intOf];omega
  ·have hbel := h0W.out V hbel0
   have hfx:Hid PP:=hide (by rw [hPP.out];exact fun j x p hx hp=>hok.out j x p (by have:=(Js.1 hx).1;have:=hnl.out;omega) hx hp)
   have hR9:V.heap[R]? = _:=(hbel.block R hRW).trans hR.out
   obtain⟨z0,z1,z2,z3⟩:=Zz hR9
   obtain⟨f0,f1,f2,f3⟩:=Yj hR9
   go_wp2
   refine Yp (c:=0) (k:=(0)) (b:=0) (i:=0) ?_ (by rfl) ⟨fun _=>hfx.out,fun _=>rfl⟩ (Zs (hwX.out V hbel) hRw.out)
   obtain⟨y0,y1,y2,y3⟩:=Zq (u0 := .int .i64 (0)) (u1 := .int .i64 (0)) (u2 := .int .i64 (0)) (u3 := .int .i64 (0)) hR9
   simp [results,Tryz.results49,go_sem,y0,y1,y2,y3]
def AheadOk (f:Fun) (b k:Nat):Prop:=∀blk,f.blocks[b]? = some blk→∀(i:Nat) y,i<k→blk[i]? = some y→y.op=25
def PhiAt (f:Fun) (x:Ins) (p:Plc):Prop:=x.op=25→∀b j:Nat,p=⟨0,b,j⟩→b≠0∧(Zw (Yo f.blocks) f.blocks.length)[b]? = some x.to∧AheadOk f b j
def PhisOk (f:Fun):Prop:=AllAt f (PhiAt f)
open Classical in
noncomputable def dec8 (P:Prop):Bool:=decide P
theorem dec8_iff {P:Prop}:dec8 P=true↔P:=by unfold dec8;exact @decide_eq_true_iff _ (Classical.propDecidable _)
theorem row_cell9 {X:World} {B g n:Nat} {no:Option Nat} {ls:List (List Int)} {cs:List Value} {t:Nat} {c:Value} (h:OwnL X B no (.slice (some ⟨g,0,none⟩) n n) ls cs) (hn:ls.length=n) (hc:cs[t]? = some c):X.cell? ⟨g,t,none⟩=some c:=by
 subst hn
 have hl:t<ls.length:=by rw [←h.len];exact(Js.1 hc).1
 rw [World.ownsRow.cellAt h.row t (by omega)]
 exact hc
theorem phis08_any (f : Fun) (n : Int) (c1 c2 : Value) (w : World) (B : Nat) (hB : B ≤ w.heap.size) (hf : RFun.rep w B [.string f.name, c1, .int .i64 f.ret, c2] f) (hsz : Ybo f ≤ 2000000) :
  Calls Tryz.prog 50 #[f.v c1 c2, .int .i64 n] w (Z2 (PhisOk f) w):=by
 have hs:Zo f:=Ybu hsz
 obtain⟨PP,hPP⟩:∃PP:Prop,Hid (PP=PhisOk f):=⟨_,hide rfl⟩
 rw [←hPP.out]
 obtain⟨hp,hb⟩:=Yk (RFun.later hf (Below.refl _ _) hB)
 obtain⟨A1,k1,h1,hm1,gp⟩:=Rp.slice1_open hp
 obtain⟨A2,k2,h2,hm2,gb⟩:=Rp.slice1_open hb
 cases h1;cases h2
 refine hd2 gp gb ?_;clear gp gb;intro gp gb
 clear hp hb
 obtain⟨N,hN⟩:=Jn (f.blocks.length)
 obtain⟨np,hnp⟩:=Jn (f.params.length)
 have hNle:N≤2000000:=by rw [hN.out];exact hs.blocks
 rw [←hN.out,←hnp.out] at hf⊢
 rw [←hN.out] at hm2
 rw [←hnp.out] at hm1
 obtain⟨W,hW,hwW,hWs,hx,hy⟩:=Ql w #[.string f.name, .slice A1 np k1, .int .i64 f.ret, .slice A2 N k2] #[.int .i64 0, .int .i64 0, .int .i64 0, .int .i64 0] 32 50
 have q0:∀w',Below W.heap.size W w'→w'.cell? ⟨w.heap.size,0,none⟩=some (.string f.name):=hx 0 _ rfl
 have q1:∀w',Below W.heap.size W w'→w'.cell? ⟨w.heap.size,1,none⟩=some (.slice A1 np k1):=hx 1 _ rfl
 have q2:∀w',Below W.heap.size W w'→w'.cell? ⟨w.heap.size,2,none⟩=some (.int .i64 f.ret):=hx 2 _ rfl
 have q3:∀w',Below W.heap.size W w'→w'.cell? ⟨w.heap.size,3,none⟩=some (.slice A2 N k2):=hx 3 _ rfl
 obtain⟨R,hRd⟩:=Jn (w.heap.size+1)
 have hR:Hid (W.heap[R]? = some (.cells #[.int .i64 0, .int .i64 0, .int .i64 0, .int .i64 0] 50 (0,0))):=hide (by
  rw [hRd.out,←hW]
  have:=Yu (w.alloc (.cells #[.string f.name, .slice A1 np k1, .int .i64 f.ret, .slice A2 N k2] 32)) (.cells #[.int .i64 0, .int .i64 0, .int .i64 0, .int .i64 0] 50)
  simpa using this)
 have hRW:R<W.heap.size:=by have:=hRd.out;omega
 have hRw:Hid (w.heap.size≤R):=hide (by have:=hRd.out;omega)
 clear hx hy
 have hws:w.heap.size≤W.heap.size:=by omega
 have hwX:Hid (∀w',Below W.heap.size W w'→Below w.heap.size w w'):=hide (fun w' h=>hwW.trans (h.mono hws))
 have hF:Hid (∀w',Below W.heap.size W w'→RFun.rep w' w'.heap.size [.string f.name, .slice A1 np k1, .int .i64 f.ret, .slice A2 N k2] f):=hide (fun w' h=>RFun.later hf ((hwX.out w' h).mono hB) (Nat.le_trans hB (hwX.out w' h).size))
 have hCo:Hid (∀w',Below W.heap.size W w'→Calls Tryz.prog 68 #[f.v (.slice A1 np k1) (.slice A2 N k2)] w' (CodePost f w')):=hide (fun w' h=>Yb1 f _ _ w' w'.heap.size (Nat.le_refl _) (Yk (hF.out w' h)).1 (Yk (hF.out w' h)).2 (by have:=Yac f;omega))
 obtain⟨P,hP⟩:=Jn (Zw (Yo f.blocks) N)
 have hPl:P.length=N:=by rw [hP.out,predsL_len]
 have cP:Hid (∀w',Below W.heap.size W w'→Calls Tryz.prog 73 #[f.v (.slice A1 np k1) (.slice A2 N k2)] w' (PredPost N P w')):=hide (fun w' h=>by
  have:=rpreds_any f (.slice A1 np k1) (.slice A2 N k2) w' w'.heap.size (Nat.le_refl _) (hF.out w' h) hs
  rwa [←hN.out,←hP.out] at this)
 have hzb:Hid (∀x,x∈f.blocks→x.length≤2000000):=hide (fun x hx=>(hs.code x hx).1)
 refine hd3 hs hf hWs ?_;clear hs hf hWs;intro hs hf hWs
 have hself:=Below.refl W.heap.size W
 refine hd2 hW hwW ?_;clear hW hwW;intro hW hwW
 go_enter Tryz.func50,Tryz.ntmps50
 go_upto_region 1 with(fail)
 rw [hW.out,←hRd.out]
 clear hW
 go_wp2_with (fail)
 refine(cP.out _ hself).mono ?_
 rintro e X0 ⟨gP,csP,rfl,hLP,hbX0⟩
 replace hLP:=hide hLP
 go_wp2_with (fail)
 refine(hCo.out _ hbX0).mono ?_
 rintro e V0 ⟨vl,vp,rfl,hb0,hl,hpl⟩
 obtain⟨A3,k3,h3,hm3,gl⟩:=Rp.slice_open hl
 obtain⟨A4,k4,h4,hm4,gpl⟩:=Rp.slice_open hpl
 cases h3;cases h4
 have hpp:(Yl f.blocks f.blocks.length 0).length=f.blocks.flatten.length:=by rw [Zk _ _ (.inl rfl) (Nat.le_refl _),Z3]
 have hbV0:=hbX0.trans (hb0.mono hbX0.size)
 refine hd2 gl gpl ?_;clear gl gpl;intro gl gpl
 obtain⟨l,hll⟩:∃l:List Ins,Hid (l=f.blocks.flatten):=⟨_,hide rfl⟩
 obtain⟨pl,hpll⟩:∃pl:List Plc,Hid (pl=Yl f.blocks f.blocks.length 0):=⟨_,hide rfl⟩
 rw [←hll.out] at gl hpp hm3⊢
 rw [←hpll.out] at gpl hpp hm4⊢
 obtain⟨nl,hnl⟩:=Jn (l.length)
 rw [hpp,←hnl.out] at gpl hm4⊢
 rw [←hnl.out] at gl hm3
 have hpl2:Hid (pl.length=nl):=hide (by rw [hpp,hnl.out])
 have hb0':=fun q hq=>hb0.block q hq
 clear hl hpl hpp hb0
 have hrP:=hide (rows_reads (hLP.out.kept (w':=V0) (fun q _ hq=>(hb0' q hq))) hPl)
 have hPP:Hid (PP=∀(i:Nat) x p,l[i]? = some x→pl[i]? = some p→PhiAt f x p):=hide (by rw [hPP.out,hll.out,hpll.out];rfl)
 have hnl2:nl≤2000000:=by have h1:=Yac f;rw [hnl.out,hll.out];omega
 have hself0:=Below.refl V0.heap.size V0
 have hok0:Hid (∀(j:Nat) x p,j<0→l[j]? = some x→pl[j]? = some p→PhiAt f x p):=hide (fun j x p h=>by omega)
 have h0W:Hid (∀w',Below V0.heap.size V0 w'→Below W.heap.size W w'):=hide (fun w' h=>hbV0.trans (h.mono hbV0.size))
 have qq0:∀w',Below V0.heap.size V0 w'→w'.cell? ⟨w.heap.size,0,none⟩=some (.string f.name):=fun w' h=>q0 w' (h0W.out w' h)
 have qq1:∀w',Below V0.heap.size V0 w'→w'.cell? ⟨w.heap.size,1,none⟩=some (.slice A1 np k1):=fun w' h=>q1 w' (h0W.out w' h)
 have qq2:∀w',Below V0.heap.size V0 w'→w'.cell? ⟨w.heap.size,2,none⟩=some (.int .i64 f.ret):=fun w' h=>q2 w' (h0W.out w' h)
 have qq3:∀w',Below V0.heap.size V0 w'→w'.cell? ⟨w.heap.size,3,none⟩=some (.slice A2 N k2):=fun w' h=>q3 w' (h0W.out w' h)
 clear q0 q1 q2 q3 hself hbV0
 go_wp2
 go_loopw [8,9,10,11] (fun s8 _ _ _ wr=>∃i:Nat,s8 = .int .i64 i∧i≤nl∧Hid (∀(j:Nat) x p,j<i→l[j]? = some x→pl[j]? = some p→PhiAt f x p)∧Below V0.heap.size V0 wr) (fun s8 _ _ _ _=>nl - (intOf s8).toNat)
 case atStart=>exact⟨0,rfl,Nat.zero_le _,hok0,hself0⟩
 case round =>
  clear hok0 hself0
  rename World=>V
  obtain⟨i,rfl,hi,hok,hbel0⟩:=hrel
  have hbel:=h0W.out V hbel0
  have hVs:=hbel0.size
  by_cases hlt:i<nl
  ·have hii : (i : Int) < (nl : Int) := by omega
   obtain⟨x,hx⟩:=Yf (l:=l) (k:=i) (by rw [←hnl.out];exact hlt)
   obtain⟨p,hp⟩:=Yf (l:=pl) (k:=i) (by rw [hpl2.out];exact hlt)
   obtain⟨b3,o3,hA3,he3⟩:=gl.out (by omega)
   subst hA3
   obtain⟨b4,o4,hA4,he4⟩:=gpl.out (by omega)
   subst hA4
   obtain⟨_,_,⟨a1',a2',rfl,hra,hrt, -,hI2,hI3,hI4,hI5⟩,hcx⟩:=he3 i x hx.out
   obtain⟨A5,k5,h5,hm5,ga⟩:=Rp.slice_open hra
   obtain⟨A6,k6,h6,hm6,gt⟩:=Rp.slice1_open hrt
   cases h5;cases h6
   refine hd2 ga gt ?_;clear ga gt;intro ga gt
   obtain⟨es4,hel4,hr4,hcp⟩:=he4 i p hp.out
   have hr4:=hr4.1
   subst hr4
   obtain⟨x0,x1,x2,x3,x4,x5,x6⟩:=hcx.seven
   obtain⟨t0,t1,t2⟩:=hcp.three
   have hrt9:=hide hrt
   clear he3 he4 hcx hcp hra hrt hel4
   obtain⟨pb,pj,blk,hpe,hpbn,hpblk,hpx⟩:=place8_of (bs:=f.blocks) (Nat.le_refl _) (by rw [Z3,←hll.out];exact hx.out) (by rw [←hpll.out];exact hp.out)
   subst hpe
   refine hd2 hpblk hpx ?_;clear hpblk hpx;intro hpblk hpx
   have hno:Hid (¬PhiAt f x ⟨0,pb,pj⟩→¬PP):=hide (fun h1 h2=>h1 (by rw [hPP.out] at h2;exact h2 i x _ hx.out hp.out))
   have hstep:Hid (PhiAt f x ⟨0,pb,pj⟩→∀(j:Nat) x p,j<i+1→l[j]? = some x→pl[j]? = some p→PhiAt f x p):=hide (fun hr j y q hj hy hq=>by
    rcases Nat.lt_succ_iff_lt_or_eq.1 hj with h|h
    ·exact hok.out j y q h hy hq
    ·subst h
     rw [hx.out] at hy
     rw [hp.out] at hq
     cases hy;cases hq
     exact hr)
   obtain⟨na,hna⟩:=Jn (x.args.length)
   obtain⟨nt,hnt⟩:=Jn (x.to.length)
   rw [←hna.out] at hm5 x5
   rw [←hnt.out] at hm6 x6 hrt9
   by_cases h25:x.op=25
   case neg =>
    have e0:(x.op != 25)=true:=by simpa using h25
    have hnx:=hide (hstep.out (fun h=>absurd h h25))
    replace h25:=hide h25
    go_wp2
    go_roundw
    case rel=>exact⟨i+1,by go_num,hlt,hnx,hbel0⟩
    case measure=>simp [intOf];omega
   have e0:(x.op != 25)=false:=by rw [h25];rfl
   replace h25:=hide h25
   have hpbN:pb<N:=by rw [hN.out];exact hpbn
   have hpbi:(pb:Int)<(N:Int):=by omega
   have hjl:=(Js.1 hpx.out).1
   obtain⟨p,hpp⟩:=Yf (l:=P) (k:=pb) (by omega)
   obtain⟨Ap,Cp,ht1, -⟩:=hrP.out pb p hpp.out
   obtain⟨o0,ho0⟩:∃o0:Bool,Hid (o0=(decide (pb≠0)&&(x.to==p))):=⟨_,hide rfl⟩
   have hal:Hid (PhiAt f x ⟨0,pb,pj⟩↔o0=true∧AheadOk f pb pj):=hide (by
    rw [ho0.out,Bool.and_eq_true,decide_eq_true_eq,beq_iff_eq]
    constructor
    ·intro h
     obtain⟨h1,h2,h3⟩:=h h25.out pb pj rfl
     rw [←hN.out,←hP.out,hpp.out] at h2
     exact⟨⟨h1,(Option.some.inj h2).symm⟩,h3⟩
    ·rintro ⟨⟨h1, h2⟩, h3⟩ - b j hbj
     have e1:b=pb∧j=pj:=by
      have h9:=hbj
      simp only [Plc.mk.injEq] at h9
      omega
     rw [e1.1,e1.2]
     refine⟨h1,?_,h3⟩
     rw [←hN.out,←hP.out,hpp.out,h2])
   go_upto_region 8 with(fail)
   go_cut [10] (fun s wx=>s = .bool o0∧Below V0.heap.size V0 wx)
   case first =>
    by_cases hb0:pb=0
    ·have d0 : ((pb : Int) != 0) = false := by rw [hb0]; rfl
     have hr:Hid (o0=false):=hide (by rw [ho0.out,hb0];rfl)
     replace hb0:=hide hb0
     go_quiet (fail)
     have hbQ:=Yi hbel0 nq
     go_wp2
     go_meet
     exact⟨by rw [hr.out],hbQ⟩
    ·have d0 : ((pb : Int) != 0) = true := bne_iff_ne.2 (by omega)
     have hr:Hid (o0=(x.to==p)):=hide (by rw [ho0.out,decide_eq_true hb0];rfl)
     obtain⟨lq,hlq⟩:=Jn (p.length)
     rw [←hlq.out] at ht1
     have cI:Hid (∀w',Below V0.heap.size V0 w'→Calls Tryz.prog 33 #[.slice A6 nt k6, .slice Ap lq Cp] w' fun e w''=>e = .returned (.bool (x.to==p))∧Below w'.heap.size w' w''):=hide (fun w' h=>by
      have hp2:Z4.rep w' w'.heap.size [.slice Ap lq Cp] p:=by
       obtain⟨c,hc,hI⟩:=(hLP.out.kept (w':=V0) (fun q _ hq=>(hb0' q hq))).at_ hpp.out
       have h1:c = .slice Ap lq Cp:=by
        have h2:=ht1 V0 (Below.refl _ _)
        have h3:=row_cell9 (hLP.out.kept (w':=V0) (fun q _ hq=>(hb0' q hq))) hPl hc
        rw [h3] at h2
        exact Option.some.inj h2
       rw [←h1]
       exact(hI.kept (w':=w') (fun q _ hq=>h.block q hq)).rep
      exact rints_any _ _ x.to p w' w'.heap.size (Nat.le_refl _) (Z4.later hrt9.out h h.size) hp2)
     have hbd:=hbel0.drew
     replace hb0:=hide hb0
     go_region_held3 (fun w' => Below V0.heap.size V0 w') (first | (with_reducible assumption) | exact hbd)
      (first
       | (go_at_call 33;refine(cI.out _ hbd).mono ?_;rintro e X1 ⟨rfl,hb⟩;have hk1:Below V0.heap.size V0 X1:=hbd.trans (hb.mono hbd.size);clear hb))
     go_wp2
     go_meet
     exact⟨by rw [hr.out],hk1⟩
   case rest =>
    obtain⟨rfl,hbC⟩:=hcut
    have hbCW:=h0W.out _ hbC
    obtain⟨b1,o1,hA2,he1⟩:=gb.out (by rw [←hN.out];omega)
    subst hA2
    obtain⟨d1,hr1,hd1⟩:=he1 pb blk hpblk.out
    obtain⟨A8,c8,h8,hm8,ga8⟩:=Rp.slice_open hr1
    cases h8
    replace ga8:=hide ga8
    obtain⟨lx,hlx⟩:=Jn (blk.length)
    have hd1':∀w',Below V0.heap.size V0 w'→w'.cell? ⟨b1,o1+pb,none⟩=some (.slice A8 lx c8):=fun w' h=>by rw [hlx.out];exact hd1 w' (hwX.out w' (h0W.out w' h))
    rw [←hlx.out] at hm8
    have hpjl:pj<lx:=by rw [hlx.out];exact hjl
    clear hd1 hr1 he1
    have hah0:Hid (o0=true↔o0=true∧AheadOk f pb 0):=hide ⟨fun h=>⟨h,fun blk hb i y hi=>by omega⟩,fun h=>h.1⟩
    go_wp2
    go_loopw [10,11] (fun s10 s11 wr=>∃(o:Bool) (k:Nat),s10 = .bool o∧s11 = .int .i64 k∧k≤pj∧Hid (o=true↔o0=true∧AheadOk f pb k)∧Below V0.heap.size V0 wr) (fun _ s11 _=>pj - (intOf s11).toNat)
    case atStart=>exact⟨o0,0,rfl,rfl,Nat.zero_le _,hah0,hbC⟩
    case round =>
     clear hah0 hbC hbCW
     rename World=>Y
     obtain⟨o,k,rfl,rfl,hk,hah,hbY⟩:=hrel
     have hYs:=hbY.size
     have hbYW:=h0W.out Y hbY
     have t2Y:=t2 Y hbY
     by_cases hltk:k<pj
     ·have hkk : (k : Int) < (pj : Int) := by omega
      have hkl:k<lx:=by omega
      have hkli:(k:Int)<(lx:Int):=by omega
      obtain⟨y,hy⟩:=Yf (l:=blk) (k:=k) (by rw [←hlx.out];exact hkl)
      have hnx:Hid (AheadOk f pb (k+1)↔AheadOk f pb k∧y.op=25):=hide (by
       constructor
       ·exact fun h=>⟨fun b hb i z hi hz=>h b hb i z (by omega) hz,h blk hpblk.out k y (Nat.lt_succ_self k) hy.out⟩
       ·rintro ⟨h1, h2⟩ b hb i z hi hz
        rcases Nat.lt_succ_iff_lt_or_eq.1 hi with h|h
        ·exact h1 b hb i z h hz
        ·subst h
         rw [hpblk.out] at hb
         cases hb
         rw [hy.out] at hz
         cases hz
         exact h2)
      cases o with
      | false =>
       have hn2:Hid (false=true↔o0=true∧AheadOk f pb (k+1)):=hide ⟨(fun h=>by cases h),fun h=>hah.out.2 ⟨h.1,(hnx.out.1 h.2).1⟩⟩
       go_wp2
       go_roundw
       case rel=>exact⟨false,k+1,rfl,by go_num,hltk,hn2,hbY⟩
       case measure=>simp [intOf];omega
      | true =>
       obtain⟨b8,o8,hA8,he8⟩:=ga8.out (by rw [←hlx.out];omega)
       subst hA8
       obtain⟨_,_,⟨e1,e2,rfl, -, -, -⟩,hcy⟩:=he8 k y hy.out
       obtain⟨s0, -⟩:=hcy.seven
       have s0Y:=s0 Y (hwX.out Y hbYW)
       have hn2:Hid ((y.op==25)=true↔o0=true∧AheadOk f pb (k+1)):=hide (by
        rw [beq_iff_eq,hnx.out]
        have h1:=hah.out.1 rfl
        exact⟨fun h=>⟨h1.1,h1.2,h⟩,fun h=>h.2.2⟩)
       clear he8 hcy s0
       go_wp2
       go_roundw
       case rel=>exact⟨_,k+1,rfl,by go_num,hltk,hn2,hbY⟩
       case measure=>simp [intOf];omega
     ·obtain rfl : k = pj := by omega
      cases o with
      | true =>
       have hnx:=hide (hstep.out (hal.out.2 (hah.out.1 rfl)))
       go_wp2
       go_roundw
       case rel=>exact⟨i+1,by go_num,hlt,hnx,hbY⟩
       case measure=>simp [intOf];omega
      | false =>
       have hfx:Hid ((12:Int)=0↔PP):=hide ⟨fun h=>by omega,fun h=>absurd h (hno.out fun h9=>by have:=hah.out.2 (hal.out.1 h9);cases this)⟩
       go_wp2_with (fail)
       refine(Zc _ _ _ _ _).mono ?_
       rintro e X9 ⟨rfl,hb9⟩
       have hk9:Below W.heap.size W X9:=hbYW.trans (hb9.mono hbYW.size)
       have hR9:X9.heap[R]? = _:=(hk9.block R hRW).trans hR.out
       obtain⟨z0,z1,z2,z3⟩:=Zz hR9
       obtain⟨f0,f1,f2,f3⟩:=Yj hR9
       go_wp2
       refine Yp (c:=12) (k:=(n)) (b:=pb) (i:=k) ?_ (by rfl) hfx.out (Zs (hwX.out X9 hk9) hRw.out)
       obtain⟨y0,y1,y2,y3⟩:=Zq (u0 := .int .i64 (12)) (u1 := .int .i64 (n)) (u2 := .int .i64 (pb)) (u3 := .int .i64 (k)) hR9
       simp [results,Tryz.results50,go_sem,y0,y1,y2,y3]

  ·have hfx : Hid PP := hide (by rw [hPP.out]; exact fun j x p hx hp => hok.out j x p (by have := (Js.1 hx).1; have := hnl.out; omega) hx hp)
   have hR9:V.heap[R]? = _:=(hbel.block R hRW).trans hR.out
   obtain⟨z0,z1,z2,z3⟩:=Zz hR9
   obtain⟨f0,f1,f2,f3⟩:=Yj hR9
   go_wp2
   refine Yp (c:=0) (k:=(0)) (b:=0) (i:=0) ?_ (by rfl) ⟨fun _=>hfx.out,fun _=>rfl⟩ (Zs (hwX.out V hbel) hRw.out)
   obtain⟨y0,y1,y2,y3⟩:=Zq (u0 := .int .i64 (0)) (u1 := .int .i64 (0)) (u2 := .int .i64 (0)) (u3 := .int .i64 (0)) hR9
   simp [results,Tryz.results50,go_sem,y0,y1,y2,y3]
theorem cinfo_bools:(Tryz.prog.info? 55).map (fun i=>(i.zero,i.size,i.bytes))=some (some (.slice none 0 0),1,24):=by kernel_rfl
def rowT (T:Nat→Nat→Bool) (n a:Nat):List Bool:=(List.range n).map (T a)
theorem rowT_at (T:Nat→Nat→Bool) {n a b:Nat} (h:b<n):(rowT T n a)[b]? = some (T a b):=by simp [rowT,h]
theorem rowT_len (T:Nat→Nat→Bool) (n a:Nat):(rowT T n a).length=n:=by simp [rowT]
def Yaz (T:Nat→Nat→Bool) (n:Nat) (w:World) (B g L a:Nat):Prop:=∃cs:List Value,w.ownsRow B 55 1 (.slice (some ⟨g,0,none⟩) n n) n cs∧
 ∀k:Nat,k<a→∃gk,cs[k]? = some (.slice (some ⟨gk,0,none⟩) n n)∧gk<L∧w.ownsRow 0 4 1 (.slice (some ⟨gk,0,none⟩) n n) n ((rowT T n k).map Value.bool)
section
variable {T:Nat→Nat→Bool} {n B g L L' a:Nat} {w w':World}
theorem Yaz.start (h:w.ownsRow B 55 1 (.slice (some ⟨g,0,none⟩) n n) n (List.replicate n (Value.slice none 0 0))):Yaz T n w B g L 0:=⟨_,h,fun k hk=>by omega⟩
theorem Yaz.below (h:Yaz T n w B g L a) (hb:Below w.heap.size w w'):Yaz T n w' B g L a:=by
 obtain⟨cs,h1,h2⟩:=h
 exact⟨cs,Yc h1 fun k hk=>hb.block k (Ya h1 hk).2.1,fun k hk=>by
  obtain⟨gk,h3,h4,h5⟩:=h2 k hk
  exact⟨gk,h3,h4,Yc h5 fun k hk=>hb.block k (Ya h5 hk).2.1⟩⟩
theorem Yaz.only (h:Yaz T n w B g L a) (ho:Only (fun k=>k=L) w.heap.size w w') (hg:∀c t,w.heap[L]? = some (.cells c t (0,0))→t = 4):Yaz T n w' B g L a:=by
 obtain⟨cs,h1,h2⟩:=h
 refine⟨cs,Yc h1 fun k hk=>ho.block k (Ya h1 hk).2.1 (fun e => ?_),fun k hk => ?_⟩
 ·obtain ⟨-, -, c5, h6⟩ := Ya h1 hk
  have e':k=L:=e
  rw [e'] at h6
  exact absurd (hg _ _ h6) (by decide)
 ·obtain ⟨gk, h3, h4, h5⟩ := h2 k hk
  exact⟨gk,h3,h4,Yc h5 fun k hk=>ho.block k (Ya h5 hk).2.1 (fun e=>by cases hk;have e':gk=L:=e;omega)⟩
theorem Yaz.put (h:Yaz T n w B g L a) (ha:a<n):Yaz T n (w.setCell ⟨g,a,none⟩ (.slice (some ⟨L,0,none⟩) n n)) B g L a∧∃cs:List Value,(w.setCell ⟨g,a,none⟩ (.slice (some ⟨L,0,none⟩) n n)).cell? ⟨g,a,none⟩=some (.slice (some ⟨L,0,none⟩) n n):=by
 obtain⟨cs,h1,h2⟩:=h
 have h3:=(World.ownsRow.stored h1 a (.slice (some ⟨L,0,none⟩) n n)).1
 have hbut:=But.stored (j:=a) (u := .slice (some ⟨L,0,none⟩) n n) h1
 have hl:cs.length=n:=by have:=h1.1;omega
 refine⟨⟨_,h3,fun k hk => ?_⟩, [],?_⟩
 ·obtain ⟨gk, h4, h5, h6⟩ := h2 k hk
  exact⟨gk,by rw [Je (by omega)];exact h4,h5,hbut.row (by decide) h6⟩
 ·rw [World.ownsRow.cellAt h3 a (by omega),Jf (by omega)]
theorem Yaz.more (h:Yaz T n w B g L a) (ha:a<n) (hc:w.cell? ⟨g,a,none⟩=some (.slice (some ⟨L,0,none⟩) n n)) (hr:w.ownsRow 0 4 1 (.slice (some ⟨L,0,none⟩) n n) n ((rowT T n a).map Value.bool)):Yaz T n w B g (L+1) (a+1):=by
 obtain⟨cs,h1,h2⟩:=h
 have hl:cs.length=n:=by have:=h1.1;omega
 refine⟨cs,h1,fun k hk => ?_⟩
 by_cases e:k=a
 ·subst e
  rw [World.ownsRow.cellAt h1 k (by omega)] at hc
  exact⟨L,hc,by omega,hr⟩
 ·obtain ⟨gk, h4, h5, h6⟩ := h2 k (by omega)
  exact⟨gk,h4,by omega,h6⟩
theorem Yaz.up (h:Yaz T n w B g L a) (hL:L≤L'):Yaz T n w B g L' a:=by
 obtain⟨cs,h1,h2⟩:=h
 exact⟨cs,h1,fun k hk=>by obtain⟨gk,h4,h5,h6⟩:=h2 k hk;exact⟨gk,h4,by omega,h6⟩⟩
theorem Yaz.reads (h:Yaz T n w B g L n):∀a:Nat,a<n→∃ga,(∀w',Below w.heap.size w w'→w'.cell? ⟨g,a,none⟩=some (.slice (some ⟨ga,0,none⟩) n n))∧∀b:Nat,b<n→∀w',Below w.heap.size w w'→w'.cell? ⟨ga,b,none⟩=some (.bool (T a b)):=by
 obtain⟨cs,h1,h2⟩:=h
 intro a ha
 obtain⟨ga,h3,h4,h5⟩:=h2 a ha
 refine⟨ga,fun w' hb => ?_,fun b hb w' hw => ?_⟩
 ·rw [hb.cell (p := ⟨g, a, none⟩) (Ya h1 rfl).2.1, World.ownsRow.cellAt h1 a (by omega)]
  exact h3
 ·rw [hw.cell (p := ⟨ga, b, none⟩) (Ya h5 rfl).2.1]
  exact OwnB.cell h5 (rowT_at T hb) (by omega)
end
theorem made_slices {w:World} {B g n:Nat} {t:TypeId} {c:Value} (h:w.ownsRow B t 1 (.slice (some ⟨g,0,none⟩) n n) n (madeCells #[c] n).toList):w.ownsRow B t 1 (.slice (some ⟨g,0,none⟩) n n) n (List.replicate n c):=by
 rwa [toList_madeCells_one] at h
def TablePost (sc:Int→List Int) (o:List Int) (n:Nat) (w:World) (e:Ending) (w':World):Prop:=∃g L,e = .returned (.slice (some ⟨g,0,none⟩) n n)∧Yaz (fun a b=>domB sc o a b) n w' w.heap.size g L n∧Below w.heap.size w w'
def RowAt (T:Nat→Nat→Bool) (n a b:Nat) (w:World) (g:Nat):Prop:=∃l:List Bool,w.ownsRow 0 4 1 (.slice (some ⟨g,0,none⟩) n n) n (l.map Value.bool)∧∀k:Nat,k<b→l[k]? = some (T a k)
theorem RowAt.set_ {T:Nat→Nat→Bool} {n a b g:Nat} {w:World} (h:RowAt T n a b w g) (hb:b<n) {v:Bool} (hv:T a b=v):RowAt T n a (b+1) (w.setCell ⟨g,b,none⟩ (.bool v)) g:=by
 obtain⟨l,h1,h2⟩:=h
 have h3:=(World.ownsRow.stored h1 b (.bool v)).1
 rw [bmap_set] at h3
 have hl:l.length=n:=by have:=h1.1;simpa using this
 refine⟨_,h3,fun k hk => ?_⟩
 by_cases e:b=k
 ·subst e;rw [Jf (by omega),hv]
 ·rw [Je e];exact h2 k (by omega)
theorem RowAt.whole {T:Nat→Nat→Bool} {n a g:Nat} {w:World} (h:RowAt T n a n w g):w.ownsRow 0 4 1 (.slice (some ⟨g,0,none⟩) n n) n ((rowT T n a).map Value.bool):=by
 obtain⟨l,h1,h2⟩:=h
 have hl:l.length=n:=by have:=h1.1;simpa using this
 have e:l=rowT T n a:=List.ext_getElem? fun k=>by
  by_cases hk:k<n
  ·rw [h2 k hk,rowT_at T hk]
  ·rw [List.getElem?_eq_none (by omega),List.getElem?_eq_none (by rw [rowT_len];omega)]
 rwa [e] at h1
theorem RowAt.below {T:Nat→Nat→Bool} {n a b g:Nat} {w w':World} (h:RowAt T n a b w g) (hb:Below w.heap.size w w'):RowAt T n a b w' g:=by
 obtain⟨l,h1,h2⟩:=h
 exact⟨l,Yc h1 fun k hk=>hb.block k (Ya h1 hk).2.1,h2⟩
theorem table_any (f : Fun) (c1 c2 : Value) (w : World) (B : Nat) (hB : B ≤ w.heap.size) (hf : RFun.rep w B [.string f.name, c1, .int .i64 f.ret, c2] f) (hs : Zo f) :
  Calls Tryz.prog 97 #[f.v c1 c2] w (TablePost (Yo f.blocks) (Q4 f.blocks) f.blocks.length w):=by
 obtain⟨hp,hb⟩:=Yk (RFun.later hf (Below.refl _ _) hB)
 obtain⟨A1,k1,h1, -, -⟩:=Rp.slice1_open hp
 obtain⟨A2,k2,h2,hm2, -⟩:=Rp.slice1_open hb
 cases h1;cases h2
 clear hp hb
 obtain⟨n,hn⟩:=Jn (f.blocks.length)
 have hnle:n≤2000000:=by rw [hn.out];exact hs.blocks
 obtain⟨O,hO⟩:=Jn (Q4 f.blocks)
 obtain⟨sc,hsc⟩:=Jn (Yo f.blocks)
 obtain⟨R,hR⟩:=Jn (Yw f.blocks)
 obtain⟨P,hP⟩:=Jn (Zw sc n)
 have hPl:P.length=n:=by rw [hP.out,predsL_len]
 have hRl:R.length=n:=by rw [hR.out,hn.out,Qj]
 have hsok:Hid (∀b,Ya1 n (sc b)):=hide (fun b=>by rw [hsc.out,hn.out];exact Yba _ _)
 have hok:Hid (OrderOk n sc O):=hide (by rw [hO.out,hn.out,hsc.out];exact Ybe _)
 have hol:O.length≤n:=by rw [hO.out,hn.out];exact order_len _
 have hRat:Hid (∀k:Nat,k<n→R[k]? = some (decide ((k:Int)∈O))):=hide (fun k hk=>by rw [hR.out,hO.out];exact reach_at _ _ (by rw [←hn.out];exact hk))
 rw [←hn.out,←hO.out,←hsc.out]
 rw [←hn.out] at hf hm2
 obtain⟨W,hW,hwW,hWs,hx⟩:=Y6 w #[.string f.name, .slice A1 f.params.length k1, .int .i64 f.ret, .slice A2 n k2] 32
 have q0:∀w',Below W.heap.size W w'→w'.cell? ⟨w.heap.size,0,none⟩=some (.string f.name):=hx 0 _ rfl
 have q1:∀w',Below W.heap.size W w'→w'.cell? ⟨w.heap.size,1,none⟩=some (.slice A1 f.params.length k1):=hx 1 _ rfl
 have q2:∀w',Below W.heap.size W w'→w'.cell? ⟨w.heap.size,2,none⟩=some (.int .i64 f.ret):=hx 2 _ rfl
 have q3:∀w',Below W.heap.size W w'→w'.cell? ⟨w.heap.size,3,none⟩=some (.slice A2 n k2):=hx 3 _ rfl
 clear hx
 have hws:w.heap.size≤W.heap.size:=by omega
 replace hWs:=hide hWs
 have hself:=Below.refl W.heap.size W
 have hF:Hid (∀w',Below W.heap.size W w'→RFun.rep w' w'.heap.size [.string f.name, .slice A1 f.params.length k1, .int .i64 f.ret, .slice A2 n k2] f):=hide (fun w' h=>RFun.later hf ((hwW.trans (h.mono hws)).mono hB) (Nat.le_trans hB (hwW.trans (h.mono hws)).size))
 have cRR:Hid (∀w',Below W.heap.size W w'→Calls Tryz.prog 29 #[f.v (.slice A1 f.params.length k1) (.slice A2 n k2)] w' (Yay n R w')):=hide (fun w' h=>by
  have:=rreach_any f (.slice A1 f.params.length k1) (.slice A2 n k2) w' w'.heap.size (Nat.le_refl _) (hF.out w' h) hs
  rwa [←hn.out,←hR.out] at this)
 have cW:Hid (∀(g:Int) w',Below W.heap.size W w'→Calls Tryz.prog 63 #[f.v (.slice A1 f.params.length k1) (.slice A2 n k2), .int .i64 g] w' (WithoutPost sc g n w')):=hide (fun(g:Int) w' h=>by
  have:=without_any f g (.slice A1 f.params.length k1) (.slice A2 n k2) w' w'.heap.size (Nat.le_refl _) (hF.out w' h) hs
  rwa [←hn.out,←hsc.out] at this)
 refine hd3 hs hf hwW ?_;clear hs hf hwW;intro hs hf hwW
 obtain⟨i0,hi0,hz0,hz1,hz2⟩:=Yh cinfo_bools
 refine hd4 hi0 hz0 hz1 hz2 ?_;clear hi0 hz0 hz1 hz2;intro hi0 hz0 hz1 hz2
 obtain⟨j0,hj0,hy0,hy1,hy2⟩:=Yh Ybh
 refine hd4 hj0 hy0 hy1 hy2 ?_;clear hj0 hy0 hy1 hy2;intro hj0 hy0 hy1 hy2
 obtain⟨T,hT⟩:∃T:Nat→Nat→Bool,Hid (T=fun(a b:Nat)=>domB sc O a b):=⟨_,hide rfl⟩
 go_enter Tryz.func97,Tryz.ntmps97
 go_wp2_with (fail)
 refine(cRR.out _ hself).mono ?_
 rintro e X ⟨gr,rfl,hR4,hb4⟩
 obtain⟨-,hRr⟩:=Yas hR4
 replace hRr:=hide hRr
 have hsX:=hb4.size
 have hbX:=hide hb4
 have cWX:Hid (∀(g:Int) w',Below X.heap.size X w'→Calls Tryz.prog 63 #[f.v (.slice A1 f.params.length k1) (.slice A2 n k2), .int .i64 g] w' (WithoutPost sc g n w')):=hide (fun g w' h=>cW.out g w' (hbX.out.trans (h.mono hsX)))
 have z0:∀w',Below X.heap.size X w'→w'.cell? ⟨w.heap.size,0,none⟩=some (.string f.name):=fun w' h=>q0 w' (hb4.trans (h.mono hsX))
 have z1:∀w',Below X.heap.size X w'→w'.cell? ⟨w.heap.size,1,none⟩=some (.slice A1 f.params.length k1):=fun w' h=>q1 w' (hb4.trans (h.mono hsX))
 have z2:∀w',Below X.heap.size X w'→w'.cell? ⟨w.heap.size,2,none⟩=some (.int .i64 f.ret):=fun w' h=>q2 w' (hb4.trans (h.mono hsX))
 have z3:∀w',Below X.heap.size X w'→w'.cell? ⟨w.heap.size,3,none⟩=some (.slice A2 n k2):=fun w' h=>q3 w' (hb4.trans (h.mono hsX))
 have hwX:Hid (Below w.heap.size w X):=hide (hwW.out.trans (hb4.mono hws))
 clear hR4 hb4 cRR cW q0 q1 q2 q3 hself
 go_wp2_with (at_make;refine wpList_make_full _ rfl (.tmp 14) (.tmp 14) _ rfl X.heap.size 55 i0 _ 1 Tryz.underlying125 hi0.out hz0.out hz1.out .i64 .i64 n n n rfl rfl rfl rfl ?c1 ?c2 (Nat.le_refl _) ?_)
 case c1=>rw [hz2.out];omega
 case c2=>unfold maxLen;omega
 intro w5 hown5 hg5
 have hb5:=Zr hg5
 have hT5:Hid (∃L,L≤w5.heap.size∧Yaz T n w5 X.heap.size X.heap.size L 0):=hide ⟨0,Nat.zero_le _,Yaz.start (made_slices hown5)⟩
 clear hown5 hg5
 go_wp2
 go_loopw [6] (fun s wr=>∃a:Nat,s = .int .i64 a∧a≤n∧Hid (∃L,L≤wr.heap.size∧Yaz T n wr X.heap.size X.heap.size L a)∧Below X.heap.size X wr) (fun s _=>n - (intOf s).toNat)
 case atStart=>exact⟨0,rfl,Nat.zero_le _,hT5,hb5⟩
 case round =>
  clear hT5 hb5
  rename World=>V
  obtain⟨a,rfl,ha,hTa,hbel⟩:=hrel
  by_cases hlt:a<n
  ·have hai : (a : Int) < (n : Int) := by omega
   have hsV:=hbel.size
   go_wp2_with (at_make;refine wpList_make_full _ rfl (.tmp 23) (.tmp 23) _ rfl V.heap.size 4 j0 _ 1 Tryz.underlying55 hj0.out hy0.out hy1.out .i64 .i64 n n n rfl rfl rfl rfl ?c1 ?c2 (Nat.le_refl _) ?_)
   case c1=>rw [hy2.out];omega
   case c2=>unfold maxLen;omega
   intro w6 hown6 hg6
   have hb6:=Zr hg6
   have hR6:=Ybf hown6
   have hs6:V.heap.size<w6.heap.size:=(Ya hR6 rfl).2.1
   have hT6:Hid (Yaz T n w6 X.heap.size X.heap.size V.heap.size a):=hide (by obtain⟨L,h1,h2⟩:=hTa.out;exact(h2.up h1).below hb6)
   have hbel6:=hbel.trans (hb6.mono hsV)
   obtain⟨cs6,hr6, -⟩:=id hT6.out
   have hcl:cs6.length=n:=by have:=hr6.1;omega
   obtain⟨u6,hu6⟩:=Yf (l:=cs6) (k:=a) (by omega)
   have rz6:w6.cell? ⟨X.heap.size,a,none⟩=some u6:=by rw [World.ownsRow.cellAt hr6 a (by omega)];exact hu6.out
   have fz6:w6.frozen? ⟨X.heap.size,a,none⟩=false:=World.ownsRow.frozenAt hr6 a
   have hT7:=hide (hT6.out.put hlt)
   have hR7:Hid (RowAt T n a 0 (w6.setCell ⟨X.heap.size,a,none⟩ (.slice (some ⟨V.heap.size,0,none⟩) n n)) V.heap.size):=hide ⟨_,(But.stored (j:=a) (u := .slice (some ⟨V.heap.size,0,none⟩) n n) hr6).row (by decide) (Zf hR6 (Nat.zero_le _)),fun k hk=>by omega⟩
   have hbel7:=hide (hbel6.setCell (p:=⟨X.heap.size,a,none⟩) (Nat.le_refl _) (.slice (some ⟨V.heap.size,0,none⟩) n n))
   have hs7:Hid (V.heap.size<(w6.setCell ⟨X.heap.size,a,none⟩ (.slice (some ⟨V.heap.size,0,none⟩) n n)).heap.size):=hide (by rw [World.size_setCell];exact hs6)
   clear hg6 hown6 hb6 hR6 hT6 hbel6 hr6 hbel hTa
   go_upto_region 8 with(fail)
   obtain⟨w7,hw7⟩:∃w7,w6.setCell ⟨X.heap.size,a,none⟩ (.slice (some ⟨V.heap.size,0,none⟩) n n)=w7:=⟨_,rfl⟩
   rw [hw7] at hT7 hR7 hbel7 hs7⊢
   clear hw7 rz6 fz6
   have hb7:=hbel7.out
   go_wp2_with (fail)
   refine(cWX.out a _ hb7).mono ?_
   rintro e Y ⟨gw,lw,rfl,hr8,hk8,hb8⟩
   have hbel8:=hb7.trans (hb8.mono hb7.size)
   have hT8:Hid (Yaz T n Y X.heap.size X.heap.size V.heap.size a):=hide (hT7.out.1.below hb8)
   have hc8:Hid (Y.cell? ⟨X.heap.size,a,none⟩=some (.slice (some ⟨V.heap.size,0,none⟩) n n)):=hide (by
    obtain⟨-, -,h⟩:=hT7.out
    obtain⟨cs,h1, -⟩:=hT7.out.1
    rw [hb8.cell (p:=⟨X.heap.size,a,none⟩) (Ya h1 rfl).2.1];exact h)
   have hR8:Hid (RowAt T n a 0 Y V.heap.size):=hide (hR7.out.below hb8)
   have hsY:Hid (V.heap.size<Y.heap.size):=hide (Nat.lt_of_lt_of_le hs7.out hb8.size)
   have hwr:Hid (∀k:Nat,k<n→∃x,(lw[k]? = some x∧(x=true↔RchW sc a k))∧∀w',Only (fun k=>k=V.heap.size) Y.heap.size Y w'→w'.cell? ⟨gw,k,none⟩=some (.bool x)):=hide (fun k hk=>by
    obtain⟨x,hx⟩:=Yf (l:=lw) (k:=k) (by rw [hk8.len];exact hk)
    refine⟨x,⟨hx.out,?_⟩,fun w' ho => ?_⟩
    ·have := hk8.iff k
     rw [hx.out] at this
     simp only [Option.some.injEq] at this
     exact this.trans ⟨fun h=>h.2,fun h=>⟨hk,h⟩⟩
    ·rw [ho.cell (p := ⟨gw, k, none⟩) (Ya hr8 rfl).2.1 (by have h1 : _ ≤ gw := (Ya hr8 rfl).1; have h2 := hs7.out; show ¬ gw = V.heap.size; omega)]
     exact OwnB.cell hr8 hx.out hk)
   have hXY:Hid (∀w',Only (fun k=>k=V.heap.size) Y.heap.size Y w'→Below X.heap.size X w'):=hide (fun w' h=>hbel8.trans (h.to_below (fun k hk=>by have:k=V.heap.size:=hk;omega) hbel8.size))
   have hcr:Hid (∀w',Only (fun k=>k=V.heap.size) Y.heap.size Y w'→w'.cell? ⟨X.heap.size,a,none⟩=some (.slice (some ⟨V.heap.size,0,none⟩) n n)):=hide (fun w' ho=>by
    obtain⟨cs,h1, -⟩:=hT8.out
    rw [ho.cell (p:=⟨X.heap.size,a,none⟩) (Ya h1 rfl).2.1 (fun e=>by
     have e':X.heap.size=V.heap.size:=e
     obtain⟨l9,h9, -⟩:=hR8.out
     obtain⟨-, -,c5,h6⟩:=Ya h1 (k:=X.heap.size) rfl
     obtain⟨-, -,c7,h8⟩:=Ya h9 (k:=V.heap.size) rfl
     rw [e',h8] at h6
     cases h6)]
    exact hc8.out)
   have hty:Hid (∀c t,Y.heap[V.heap.size]? = some (.cells c t (0,0))→t = 4):=hide (fun c t h=>by
    obtain⟨l9,h9, -⟩:=hR8.out
    obtain⟨-, -,c7,h8⟩:=Ya h9 (k:=V.heap.size) rfl
    rw [h8] at h;cases h;rfl)
   have ha1:a<n:=hlt
   have hraX:=hRr.out a _ (hRat.out a hlt)
   replace hraX:=hide hraX
   clear hb7 hbel7 hb8 hr8 hk8 hT7 hR7 hs7 hbel8
   go_wp2
   go_loopw [8] (fun s wr=>∃b:Nat,s = .int .i64 b∧b≤n∧Hid (RowAt T n a b wr V.heap.size)∧Hid (Only (fun k=>k=V.heap.size) Y.heap.size Y wr)) (fun s _=>n - (intOf s).toNat)
   case atStart=>exact⟨0,rfl,Nat.zero_le _,hR8,hide (Only.refl _ _ _)⟩
   case round =>
    clear hR8
    rename World=>Z
    clear z0 z1 z2 z3 hPl hRl hol
    obtain⟨b,rfl,hb,hRb,hon⟩:=hrel
    have hbZ:=hXY.out _ hon.out
    by_cases hltb:b<n
    ·have hbi : (b : Int) < (n : Int) := by omega
     have ra:∀w',Only (fun k=>k=V.heap.size) Y.heap.size Y w'→w'.cell? ⟨gr,a,none⟩=some (.bool (decide ((a:Int)∈O))):=fun w' h=>hraX.out _ (hXY.out _ h)
     have ra:=ra _ hon.out
     have rb:∀w',Only (fun k=>k=V.heap.size) Y.heap.size Y w'→w'.cell? ⟨gr,b,none⟩=some (.bool (decide ((b:Int)∈O))):=fun w' h=>hRr.out b _ (hRat.out b hltb) _ (hXY.out _ h)
     have rb:=rb _ hon.out
     have rt:=hcr.out _ hon.out
     obtain⟨x,⟨hx1,hx2⟩,rx9⟩:=hwr.out b hltb
     have rx:=rx9 _ hon.out
     clear rx9
     obtain⟨l9,hl9, -⟩:=id hRb.out
     have hl9l:l9.length=n:=by have:=hl9.1;simpa using this
     obtain⟨y9,hy9⟩:=Yf (l:=l9) (k:=b) (by omega)
     have ro:=OwnB.cell hl9 hy9.out hltb
     have fo:Z.frozen? ⟨V.heap.size,b,none⟩=false:=World.ownsRow.frozenAt hl9 b
     have hset:Hid (∀v,T a b=v→RowAt T n a (b+1) (Z.drew.setCell ⟨V.heap.size,b,none⟩ (.bool v)) V.heap.size):=hide (fun v hv=>(RowAt.set_ hRb.out hltb hv))
     have hon2:Hid (∀v,Only (fun k=>k=V.heap.size) Y.heap.size Y (Z.drew.setCell ⟨V.heap.size,b,none⟩ (.bool v))):=hide (fun v=>Only.setCell (p:=⟨V.heap.size,b,none⟩) hon.out.drew (.inl rfl) (.bool v))
     have hTv:Hid (T a b=true↔((a:Int)∈O∧(b:Int)∈O∧¬RchW sc a b)):=hide (by rw [hT.out];exact domB_iff)
     replace hx2:=hide hx2
     clear hbZ hx1 hl9
     have fin:Hid (∀v:Bool,(v=true↔((a:Int)∈O∧(b:Int)∈O∧¬RchW sc a b))→T a b=v):=hide (fun v h=>by rw [Bool.eq_iff_iff];exact hTv.out.trans h.symm)
     by_cases am:(a:Int)∈O
     ·rw [show decide ((a : Int) ∈ O) = true from decide_eq_true am] at ra
      replace am:=hide am
      by_cases bm:(b:Int)∈O
      ·rw [show decide ((b : Int) ∈ O) = true from decide_eq_true bm] at rb
       replace bm:=hide bm
       by_cases hab:a=b
       ·subst hab
        have hv:Hid (T a a=true):=hide (fin.out true ⟨fun _=>⟨am.out,am.out,fun h=>h.free_ne rfl⟩,fun _=>rfl⟩)
        have hab2:((a:Int)==(a:Int))=true:=by simp
        go_upto_region 12 with(fail)
        refine wp_region_still_tail 28 (by kernel_rfl) (by kernel_rfl) ?_
        simp only [List.take_succ_cons,List.take_zero,List.drop_succ_cons,List.drop_zero]
        refine Qa ?_
        repeat (go_big_quiet_step (fail))
        refine wpQuiet_nil ?_
        change wpList _ _ _ _ _ Z.drew
        go_wp2
        go_roundw
        case rel=>exact⟨a+1,by go_num,hltb,hide (hset.out _ hv.out),hide (hon2.out _)⟩
        case measure=>simp [intOf];omega
       ·have hab2 : ((a : Int) == (b : Int)) = false := by simp; omega
        have hv:Hid (T a b = !x):=hide (fin.out _ ⟨fun h=>⟨am.out,bm.out,fun h'=>by rw [hx2.out.2 h'] at h;cases h⟩,fun h=>by
         cases x with
         | false=>rfl
         | true=>exact(h.2.2 (hx2.out.1 rfl)).elim⟩)
        replace hab:=hide hab
        go_upto_region 12 with(fail)
        refine wp_region_still_tail 28 (by kernel_rfl) (by kernel_rfl) ?_
        simp only [List.take_succ_cons,List.take_zero,List.drop_succ_cons,List.drop_zero]
        refine Qa ?_
        repeat (go_big_quiet_step (fail))
        refine wpQuiet_nil ?_
        change wpList _ _ _ _ _ Z.drew
        go_wp2
        go_roundw
        case rel=>exact⟨b+1,by go_num,hltb,hide (hset.out _ hv.out),hide (hon2.out _)⟩
        case measure=>simp [intOf];omega
      ·rw [show decide ((b : Int) ∈ O) = false from decide_eq_false bm] at rb
       have hv:Hid (T a b=false):=hide (fin.out false ⟨(fun h=>by cases h),fun h=>(bm h.2.1).elim⟩)
       replace bm:=hide bm
       go_upto_region 12 with(fail)
       refine wp_region_still_tail 28 (by kernel_rfl) (by kernel_rfl) ?_
       simp only [List.take_succ_cons,List.take_zero,List.drop_succ_cons,List.drop_zero]
       refine Qa ?_
       repeat (go_big_quiet_step (fail))
       refine wpQuiet_nil ?_
       change wpList _ _ _ _ _ Z.drew
       go_wp2
       go_roundw
       case rel=>exact⟨b+1,by go_num,hltb,hide (hset.out _ hv.out),hide (hon2.out _)⟩
       case measure=>simp [intOf];omega
     ·rw [show decide ((a : Int) ∈ O) = false from decide_eq_false am] at ra
      have hv:Hid (T a b=false):=hide (fin.out false ⟨(fun h=>by cases h),fun h=>(am h.1).elim⟩)
      replace am:=hide am
      go_upto_region 12 with(fail)
      refine wp_region_still_tail 28 (by kernel_rfl) (by kernel_rfl) ?_
      simp only [List.take_succ_cons,List.take_zero,List.drop_succ_cons,List.drop_zero]
      refine Qa ?_
      repeat (go_big_quiet_step (fail))
      refine wpQuiet_nil ?_
      change wpList _ _ _ _ _ Z.drew
      go_wp2
      go_roundw
      case rel=>exact⟨b+1,by go_num,hltb,hide (hset.out _ hv.out),hide (hon2.out _)⟩
      case measure=>simp [intOf];omega
    ·obtain rfl : b = n := by omega
     have hT9:Hid (∃L,L≤Z.heap.size∧Yaz T b Z X.heap.size X.heap.size L (a+1)):=hide ⟨V.heap.size+1,by have:=hon.out.size;have:=hsY.out;omega,Yaz.more (hT8.out.only hon.out hty.out) ha1 (hcr.out _ hon.out) hRb.out.whole⟩
     go_wp2
     go_roundw
     case rel=>exact⟨a+1,by go_num,ha1,hT9,hbZ⟩
     case measure=>simp [intOf];omega
  ·obtain rfl : a = n := by omega
   have hfin:Hid (∃L,Yaz (fun a b=>domB sc O a b) a V w.heap.size X.heap.size L a):=hide (by
    obtain⟨L, -,h⟩:=hTa.out
    rw [hT.out] at h
    obtain⟨cs,h1,h2⟩:=h
    exact⟨L,cs,Zf h1 (by omega),h2⟩)
   go_wp2
   go_ret
   obtain⟨L,h⟩:=hfin.out
   exact⟨_,L,rfl,h,hwX.out.trans (hbel.mono hwX.out.size)⟩
end Go.Proofs.YtamjcafjdioidaaGreat
