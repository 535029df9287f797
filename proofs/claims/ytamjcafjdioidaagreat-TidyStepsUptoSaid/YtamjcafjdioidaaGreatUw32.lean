/- Texts of the chain, without what is not wanted: VrR. No condition but sizes. -/
import Derived.Test.YtamjcafjdioidaaGreatUw31
set_option linter.unusedVariables false
set_option linter.unusedSimpArgs false
set_option maxRecDepth 100000
set_option maxHeartbeats 12800000
namespace Go.Proofs.YtamjcafjdioidaaGreat
open Go.RowKit
theorem phi_lens {ret b:Int} {x:Ins} (h:formedB ret x b=true) (h25:x.op=25):x.args.length=x.to.length:=by
 unfold formedB at h
 simp only [Bool.and_eq_true,decide_eq_true_eq] at h
 have h1:=h.1.1.1.2
 unfold manyS at h1
 rw [if_neg (by omega),if_pos h25] at h1
 have h2:(x.args.length:Int)=x.to.length:=h1
 omega
theorem type_def {f:Fun} {r:Int} (h1:(f.params.length:Int)≤r) (h2:typeS f r≠0):¬noDef f.blocks.flatten r:=fun h=>by
 unfold typeS at h2
 rw [if_neg (by omega),if_neg (by omega),find_none h] at h2
 exact h2 rfl
def SsaArg (f:Fun) (x:Ins) (b j k:Nat) (v:Opd):Prop:=v.kind=1→(f.params.length:Int)≤v.num→∀di dj:Nat,IsDef f.blocks v.num di dj→
 if x.op=25 then∀t,x.to[k]? = some t→t∈Q4 f.blocks→domB (Yo f.blocks) (Q4 f.blocks) di t=true else if di=b then dj<j else domB (Yo f.blocks) (Q4 f.blocks) di b=true
def SsaAt (f:Fun) (x:Ins) (p:Plc):Prop:=∀b j:Nat,p=⟨0,b,j⟩→(b:Int)∈Q4 f.blocks→∀(k:Nat) v,x.args[k]? = some v→SsaArg f x b j k v
def SsaOk (f:Fun):Prop:=AllAt f (SsaAt f)
theorem order08_any (m : Mod) (f : Fun) (n : Int) (c1 c2 : Value) (w : World) (B : Nat) (hB : B ≤ w.heap.size) (hf : RFun.rep w B [.string f.name, c1, .int .i64 f.ret, c2] f) (hsz : Ybo f ≤ 2000000) (hfo : FormsOk m f) (hop : OpdsOk m f) (hph : PhisOk f) :
  Calls Tryz.prog 51 #[f.v c1 c2, .int .i64 n] w (Z2 (SsaOk f) w):=by
 have hs:Zo f:=Ybu hsz
 obtain⟨PP,hPP⟩:∃PP:Prop,Hid (PP=SsaOk f):=⟨_,hide rfl⟩
 rw [←hPP.out]
 obtain⟨hp,hb⟩:=Yk (RFun.later hf (Below.refl _ _) hB)
 obtain⟨A1,k1,h1,hm1,gp⟩:=Rp.slice1_open hp
 obtain⟨A2,k2,h2,hm2,gb⟩:=Rp.slice1_open hb
 cases h1;cases h2
 replace gp:=hide gp
 replace gb:=hide gb
 clear hp hb
 obtain⟨N,hN⟩:=Jn (f.blocks.length)
 obtain⟨np,hnp⟩:=Jn (f.params.length)
 have hNle:N≤2000000:=by rw [hN.out];exact hs.blocks
 rw [←hN.out,←hnp.out] at hf⊢
 rw [←hN.out] at hm2
 rw [←hnp.out] at hm1
 obtain⟨W,hW,hwW,hWs,hx,hy⟩:=Ql w #[.string f.name, .slice A1 np k1, .int .i64 f.ret, .slice A2 N k2] #[.int .i64 0, .int .i64 0, .int .i64 0, .int .i64 0] 32 50
 have q0:∀w',Below W.heap.size W w'→w'.cell? ⟨w.heap.size,0,none⟩=some (.string f.name):=hx 0 _ rfl
 have q1:∀w',Below W.heap.size W w'→w'.cell? ⟨w.heap.size,1,none⟩=some (.slice A1 np k1):=hx 1 _ rfl
 have q2:∀w',Below W.heap.size W w'→w'.cell? ⟨w.heap.size,2,none⟩=some (.int .i64 f.ret):=hx 2 _ rfl
 have q3:∀w',Below W.heap.size W w'→w'.cell? ⟨w.heap.size,3,none⟩=some (.slice A2 N k2):=hx 3 _ rfl
 obtain⟨R,hRd⟩:=Jn (w.heap.size+1)
 have hR:Hid (W.heap[R]? = some (.cells #[.int .i64 0, .int .i64 0, .int .i64 0, .int .i64 0] 50 (0,0))):=hide (by
  rw [hRd.out,←hW]
  have:=Yu (w.alloc (.cells #[.string f.name, .slice A1 np k1, .int .i64 f.ret, .slice A2 N k2] 32)) (.cells #[.int .i64 0, .int .i64 0, .int .i64 0, .int .i64 0] 50)
  simpa using this)
 have hRW:R<W.heap.size:=by have:=hRd.out;omega
 have hRw:Hid (w.heap.size≤R):=hide (by have:=hRd.out;omega)
 clear hx hy
 have hws:w.heap.size≤W.heap.size:=by omega
 have hwX:Hid (∀w',Below W.heap.size W w'→Below w.heap.size w w'):=hide (fun w' h=>hwW.trans (h.mono hws))
 have hF:Hid (∀w',Below W.heap.size W w'→RFun.rep w' w'.heap.size [.string f.name, .slice A1 np k1, .int .i64 f.ret, .slice A2 N k2] f):=hide (fun w' h=>RFun.later hf ((hwX.out w' h).mono hB) (Nat.le_trans hB (hwX.out w' h).size))
 have hCo:Hid (∀w',Below W.heap.size W w'→Calls Tryz.prog 68 #[f.v (.slice A1 np k1) (.slice A2 N k2)] w' (CodePost f w')):=hide (fun w' h=>Yb1 f _ _ w' w'.heap.size (Nat.le_refl _) (Yk (hF.out w' h)).1 (Yk (hF.out w' h)).2 (by have:=Yac f;omega))
 obtain⟨O,hO⟩:=Jn (Q4 f.blocks)
 obtain⟨sc,hsc⟩:=Jn (Yo f.blocks)
 obtain⟨RR,hRR⟩:=Jn (Yw f.blocks)
 have hRat:Hid (∀k:Nat,k<N→RR[k]? = some (decide ((k:Int)∈O))):=hide (fun k hk=>by rw [hRR.out,hO.out];exact reach_at _ _ (by rw [←hN.out];exact hk))
 have cRe:Hid (∀w',Below W.heap.size W w'→Calls Tryz.prog 29 #[f.v (.slice A1 np k1) (.slice A2 N k2)] w' (Yay N RR w')):=hide (fun w' h=>by
  have:=rreach_any f (.slice A1 np k1) (.slice A2 N k2) w' w'.heap.size (Nat.le_refl _) (hF.out w' h) hs
  rwa [←hN.out,←hRR.out] at this)
 have cTa:Hid (∀w',Below W.heap.size W w'→Calls Tryz.prog 97 #[f.v (.slice A1 np k1) (.slice A2 N k2)] w' (TablePost sc O N w')):=hide (fun w' h=>by
  have:=table_any f (.slice A1 np k1) (.slice A2 N k2) w' w'.heap.size (Nat.le_refl _) (hF.out w' h) hs
  rwa [←hN.out,←hO.out,←hsc.out] at this)
 have hDe:Hid (∀(r:Int) w',Below W.heap.size W w'→Calls Tryz.prog 94 #[f.v (.slice A1 np k1) (.slice A2 N k2), .int .i64 r] w' (DefPost f r w')):=hide (fun r w' h=>rdef_any f r _ _ w' w'.heap.size (Nat.le_refl _) (Yk (hF.out w' h)).1 (Yk (hF.out w' h)).2 (by have:=parts_flat f;omega))
 have hzb:Hid (∀x,x∈f.blocks→x.length≤2000000):=hide (fun x hx=>(hs.code x hx).1)
 refine hd3 hs hf hWs ?_;clear hs hf hWs;intro hs hf hWs
 have hself:=Below.refl W.heap.size W
 replace hW:=hide hW
 replace hwW:=hide hwW
 go_enter Tryz.func51,Tryz.ntmps51
 go_upto_region 1 with(fail)
 rw [hW.out,←hRd.out]
 clear hW
 go_wp2_with (fail)
 refine(cRe.out _ hself).mono ?_
 rintro e X0 ⟨gr,rfl,hrr,hbX0⟩
 replace hrr:=hide hrr
 go_wp2_with (fail)
 refine(cTa.out _ hbX0).mono ?_
 rintro e X1 ⟨gt9,Lt,rfl,hTab,hbX1⟩
 have hbW1:=hbX0.trans (hbX1.mono hbX0.size)
 replace hTab:=hide hTab
 have hX1s:=hbX1.size
 go_wp2_with (fail)
 refine(hCo.out _ hbW1).mono ?_
 rintro e V0 ⟨vl,vp,rfl,hb0,hl,hpl⟩
 obtain⟨A3,k3,h3,hm3,gl⟩:=Rp.slice_open hl
 obtain⟨A4,k4,h4,hm4,gpl⟩:=Rp.slice_open hpl
 cases h3;cases h4
 have hpp:(Yl f.blocks f.blocks.length 0).length=f.blocks.flatten.length:=by rw [Zk _ _ (.inl rfl) (Nat.le_refl _),Z3]
 have hbV0:=hbW1.trans (hb0.mono hbW1.size)
 replace gl:=hide gl
 replace gpl:=hide gpl
 obtain⟨l,hll⟩:∃l:List Ins,Hid (l=f.blocks.flatten):=⟨_,hide rfl⟩
 obtain⟨pl,hpll⟩:∃pl:List Plc,Hid (pl=Yl f.blocks f.blocks.length 0):=⟨_,hide rfl⟩
 rw [←hll.out] at gl hpp hm3⊢
 rw [←hpll.out] at gpl hpp hm4⊢
 obtain⟨nl,hnl⟩:=Jn (l.length)
 rw [hpp,←hnl.out] at gpl hm4⊢
 rw [←hnl.out] at gl hm3
 have hpl2:Hid (pl.length=nl):=hide (by rw [hpp,hnl.out])
 have hb00:=hb0
 clear hl hpl hpp hb0
 have hrd:Hid (∀k:Nat,k<N→∀w',Below V0.heap.size V0 w'→w'.cell? ⟨gr,k,none⟩=some (.bool (decide ((k:Int)∈O)))):=hide (fun k hk w' h=>by
  have h9:=hbX1.trans ((hb00.trans (h.mono hb00.size)).mono hX1s)
  exact OwnB.cell (Yc hrr.out fun q hq=>h9.block q (Ya hrr.out hq).2.1) (hRat.out k hk) hk)
 have htb:Hid (∀a:Nat,a<N→∃ga,(∀w',Below V0.heap.size V0 w'→w'.cell? ⟨gt9,a,none⟩=some (.slice (some ⟨ga,0,none⟩) N N))∧∀b:Nat,b<N→∀w',Below V0.heap.size V0 w'→w'.cell? ⟨ga,b,none⟩=some (.bool (domB sc O a b))):=hide (fun a ha=>by
  obtain⟨ga,h1,h2⟩:=(hTab.out.below hb00).reads a ha
  exact⟨ga,h1,h2⟩)
 clear hb00 hbX1 hbW1
 have hPP:Hid (PP=∀(i:Nat) x p,l[i]? = some x→pl[i]? = some p→SsaAt f x p):=hide (by rw [hPP.out,hll.out,hpll.out];rfl)
 have hfo:Hid (∀(i:Nat) x p,l[i]? = some x→pl[i]? = some p→FormOk m f.ret x p.blk):=hide (by rw [hll.out,hpll.out];exact hfo)
 have hop:Hid (∀(i:Nat) x p,l[i]? = some x→pl[i]? = some p→OpdsAt m f x p):=hide (by rw [hll.out,hpll.out];exact hop)
 have hph:Hid (∀(i:Nat) x p,l[i]? = some x→pl[i]? = some p→PhiAt f x p):=hide (by rw [hll.out,hpll.out];exact hph)
 have hnl2:nl≤2000000:=by have h1:=Yac f;rw [hnl.out,hll.out];omega
 have hself0:=Below.refl V0.heap.size V0
 have hok0:Hid (∀(j:Nat) x p,j<0→l[j]? = some x→pl[j]? = some p→SsaAt f x p):=hide (fun j x p h=>by omega)
 have h0W:Hid (∀w',Below V0.heap.size V0 w'→Below W.heap.size W w'):=hide (fun w' h=>hbV0.trans (h.mono hbV0.size))
 have qq0:∀w',Below V0.heap.size V0 w'→w'.cell? ⟨w.heap.size,0,none⟩=some (.string f.name):=fun w' h=>q0 w' (h0W.out w' h)
 have qq1:∀w',Below V0.heap.size V0 w'→w'.cell? ⟨w.heap.size,1,none⟩=some (.slice A1 np k1):=fun w' h=>q1 w' (h0W.out w' h)
 have qq2:∀w',Below V0.heap.size V0 w'→w'.cell? ⟨w.heap.size,2,none⟩=some (.int .i64 f.ret):=fun w' h=>q2 w' (h0W.out w' h)
 have qq3:∀w',Below V0.heap.size V0 w'→w'.cell? ⟨w.heap.size,3,none⟩=some (.slice A2 N k2):=fun w' h=>q3 w' (h0W.out w' h)
 clear q0 q1 q2 q3 hself hbV0
 go_wp2
 go_loopw [9,10,11,12,13,14,15] (fun s9 _ _ _ _ _ _ wr=>∃i:Nat,s9 = .int .i64 i∧i≤nl∧Hid (∀(j:Nat) x p,j<i→l[j]? = some x→pl[j]? = some p→SsaAt f x p)∧Below V0.heap.size V0 wr) (fun s9 _ _ _ _ _ _ _=>nl - (intOf s9).toNat)
 case atStart=>exact⟨0,rfl,Nat.zero_le _,hok0,hself0⟩
 case round =>
  clear hok0 hself0
  rename World=>V
  obtain⟨i,rfl,hi,hok,hbel0⟩:=hrel
  have hVs:=hbel0.size
  by_cases hlt:i<nl
  ·have hii : (i : Int) < (nl : Int) := by omega
   obtain⟨x,hx⟩:=Yf (l:=l) (k:=i) (by rw [←hnl.out];exact hlt)
   obtain⟨p,hp⟩:=Yf (l:=pl) (k:=i) (by rw [hpl2.out];exact hlt)
   obtain⟨b3,o3,hA3,he3⟩:=gl.out (by omega)
   subst hA3
   obtain⟨b4,o4,hA4,he4⟩:=gpl.out (by omega)
   subst hA4
   obtain⟨_,_,⟨a1',a2',rfl,hra,hrt, -,hI2,hI3,hI4,hI5⟩,hcx⟩:=he3 i x hx.out
   obtain⟨A5,k5,h5,hm5,ga⟩:=Rp.slice_open hra
   obtain⟨A6,k6,h6,hm6,gt⟩:=Rp.slice1_open hrt
   cases h5;cases h6
   replace ga:=hide ga
   replace gt:=hide gt
   obtain⟨es4,hel4,hr4,hcp⟩:=he4 i p hp.out
   have hr4:=hr4.1
   subst hr4
   obtain⟨x0,x1,x2,x3,x4,x5,x6⟩:=hcx.seven
   obtain⟨t0,t1,t2⟩:=hcp.three
   clear he3 he4 hcx hcp hra hrt hel4
   obtain⟨pb,pj,blk,hpe,hpbn,hpblk,hpx⟩:=place8_of (bs:=f.blocks) (Nat.le_refl _) (by rw [Z3,←hll.out];exact hx.out) (by rw [←hpll.out];exact hp.out)
   subst hpe
   replace hpblk:=hide hpblk
   replace hpx:=hide hpx
   obtain⟨na,hna⟩:=Jn (x.args.length)
   obtain⟨nt,hnt⟩:=Jn (x.to.length)
   rw [←hna.out] at hm5 x5
   rw [←hnt.out] at hm6 x6
   have hpbN:pb<N:=by rw [hN.out];exact hpbn
   have hpbi:(pb:Int)<(N:Int):=by omega
   have hlen25:Hid (x.op=25→na=nt):=hide (fun h=>by rw [hna.out,hnt.out];exact phi_lens (hfo.out i x _ hx.out hp.out).1 h)
   have hto25:Hid (x.op=25→∀t,t∈x.to→0≤t∧t<(N:Int)):=hide (fun h t ht=>by
    obtain⟨-,h2, -⟩:=hph.out i x _ hx.out hp.out h pb pj rfl
    rw [←hN.out] at h2
    have h3:=(predsL_mem h2 t).1 ht
    exact⟨h3.1,h3.2.1⟩)
   have hselfi:=hbel0
   have hoki:Hid (∀(j:Nat) v,j<0→x.args[j]? = some v→(pb:Int)∈O→SsaArg f x pb pj j v):=hide (fun j v h=>by omega)
   clear hbel0 hVs
   go_wp2
   go_loopw [10,11,12,13,14,15] (fun s10 _ _ _ _ _ wr=>∃k:Nat,s10 = .int .i64 k∧k≤na∧Hid (∀(j:Nat) v,j<k→x.args[j]? = some v→(pb:Int)∈O→SsaArg f x pb pj j v)∧Below V0.heap.size V0 wr) (fun s10 _ _ _ _ _ _=>na - (intOf s10).toNat)
   case atStart=>exact⟨0,rfl,Nat.zero_le _,hoki,hselfi⟩
   case round =>
    clear hoki hselfi
    rename World=>Y
    obtain⟨k,rfl,hk,hokk,hbY⟩:=hrel
    have hYs:=hbY.size
    have hbYW:=h0W.out Y hbY
    by_cases hltk:k<na
    ·have hkk : (k : Int) < (na : Int) := by omega
     obtain⟨v,hv⟩:=Yf (l:=x.args) (k:=k) (by rw [←hna.out];exact hltk)
     obtain⟨b5,o5,hA5,he5⟩:=ga.out (by rw [←hna.out];omega)
     subst hA5
     obtain⟨es5,hel5,hr5,hc5⟩:=he5 k v hv.out
     have hr5:=hr5.1
     subst hr5
     obtain⟨s0,s1,s2⟩:=hc5.three
     clear he5 hc5 hel5
     have hnext:Hid (((pb:Int)∈O→SsaArg f x pb pj k v)→∀(j:Nat) v,j<k+1→x.args[j]? = some v→(pb:Int)∈O→SsaArg f x pb pj j v):=hide (fun hr j u hj hu=>by
      rcases Nat.lt_succ_iff_lt_or_eq.1 hj with h|h
      ·exact hokk.out j u h hu
      ·subst h
       rw [hv.out] at hu
       cases hu
       exact hr)
     have hno:Hid ((pb:Int)∈O→¬SsaArg f x pb pj k v→¬PP):=hide (fun h0 h1 h2=>h1 (by rw [hPP.out] at h2;exact h2 i x _ hx.out hp.out pb pj rfl (by rw [←hO.out];exact h0) k v hv.out))
     obtain⟨Z,hZ,hwZ,hZs,hzc⟩:=Y6 Y #[.int .i64 v.kind, .int .i64 v.num, .int .u64 v.bits] 62
     have y0:=hzc 0 _ rfl
     have y1:=hzc 1 _ rfl
     have hbZ:Below V0.heap.size V0 Z:=hbY.trans (hwZ.mono hYs)
     have hbZW:=h0W.out Z hbZ
     have hselfZ:=Below.refl Z.heap.size Z
     refine hd3 hwZ hZs hZ ?_;clear hwZ hZs hZ;intro hwZ hZs hZ
     clear hzc
     go_upto_region 11 with(fail)
     rw [hZ.out]
     clear hZ s0 s1 s2
     by_cases g1:v.kind=1
     case neg =>
      have e1:(v.kind != 1)=true:=by simpa using g1
      have hnx:=hide (hnext.out (fun _ h=>absurd h g1))
      replace g1:=hide g1
      go_wp2
      go_roundw
      case rel=>exact⟨k+1,by go_num,hltk,hnx,hbZ⟩
      case measure=>simp [intOf];omega
     have e1:(v.kind != 1)=false:=by rw [g1];rfl
     by_cases g2:(np:Int)≤v.num
     case neg =>
      have e2:v.num<(np:Int):=by omega
      have hnx:=hide (hnext.out (fun _ _ h=>absurd h (by rw [←hnp.out];omega)))
      replace g1:=hide g1
      go_wp2
      go_roundw
      case rel=>exact⟨k+1,by go_num,hltk,hnx,hbZ⟩
      case measure=>simp [intOf];omega
     have e2:¬v.num<(np:Int):=by omega
     have hexd:Hid (¬noDef f.blocks.flatten v.num):=hide (by
      have h1:=hop.out i x _ hx.out hp.out k v hv.out
      unfold OpdOk at h1
      rw [if_pos g1] at h1
      exact type_def (by rw [←hnp.out];exact g2) h1.2.2.1)
     have hg1:=hide g1
     clear g1
     go_wp2_with (fail)
     refine(hDe.out v.num _ hbZW).mono ?_
     rintro e X ⟨di,dj,fd,rfl,hb,hd1,hd2⟩
     have hfd:fd=true:=by
      cases fd with
      | true=>rfl
      | false=>exact absurd (hd2 rfl).2.2 hexd.out
     subst hfd
     have hdef:=hide (hd1 rfl)
     replace hd1:=hide hd1
     replace hd2:=hide hd2
     have hdiN:di<N:=by
      obtain⟨_,_,h9, -⟩:=hdef.out
      rw [hN.out]
      exact(Js.1 h9).1
     have hdii:(di:Int)<(N:Int):=by omega
     have hbX:=hbZ.trans (hb.mono hbZ.size)
     obtain⟨Q,hQ,hwQ,hQs,hqc⟩:=Y6 X #[.int .i64 0, .int .i64 di, .int .i64 dj] 48
     have w1:=hqc 1 _ rfl
     have w2:=hqc 2 _ rfl
     have hbQ:Below V0.heap.size V0 Q:=hbX.trans (hwQ.mono hbX.size)
     have hbQW:=h0W.out Q hbQ
     have hselfQ:=Below.refl Q.heap.size Q
     have harg:Hid (SsaArg f x pb pj k v↔if x.op=25 then∀t,x.to[k]? = some t→t∈O→domB sc O di t=true else if di=pb then dj<pj else domB sc O di pb=true):=hide (by
      rw [hO.out,hsc.out]
      constructor
      ·exact fun h=>h hg1.out (by rw [←hnp.out];exact g2) di dj hdef.out
      ·intro h _ _ di' dj' hd'
       obtain⟨r1,r2⟩:=isDef_one hdef.out hd'
       rw [←r1,←r2]
       exact h)
     obtain⟨ga9,ht1,ht2⟩:=htb.out di hdiN
     refine hd3 hwQ hQs hQ ?_;clear hwQ hQs hQ;intro hwQ hQs hQ
     clear hqc y0 y1
     go_upto_region 13 with(fail)
     rw [hQ.out]
     clear hQ
     have rr:=hrd.out pb hpbN Q hbQ
     by_cases hpo:(pb:Int)∈O
     case neg =>
      rw [decide_eq_false hpo] at rr
      have hnx:=hide (hnext.out (fun h=>absurd h hpo))
      replace hpo:=hide hpo
      go_wp2
      go_roundw
      case rel=>exact⟨k+1,by go_num,hltk,hnx,hbQ⟩
      case measure=>simp [intOf];omega
     rw [decide_eq_true hpo] at rr
     have hno2:Hid (¬SsaArg f x pb pj k v→¬PP):=hide (hno.out hpo)
     replace hpo:=hide hpo
     by_cases h25:x.op=25
     ·have b25 : (x.op == 25) = true := by rw [h25]; rfl
      have n25:(x.op != 25)=false:=by rw [h25];rfl
      have hkt:k<nt:=by have:=hlen25.out h25;omega
      have hkti:(k:Int)<(nt:Int):=by omega
      obtain⟨t,ht⟩:=Yf (l:=x.to) (k:=k) (by rw [←hnt.out];exact hkt)
      obtain⟨ht0,htN⟩:=hto25.out h25 t (Jm ht.out)
      obtain⟨tn,rfl⟩:=Int.eq_ofNat_of_zero_le ht0
      have htn:tn<N:=by omega
      obtain⟨b6,o6,hA6,he6⟩:=gt.out (by rw [←hnt.out];omega)
      subst hA6
      obtain⟨c,hc,r1⟩:=he6 k _ ht.out
      have hc:=hc.1
      cases hc
      have r1:=r1 Q hbQ
      have rt:=hrd.out tn htn Q hbQ
      have hT:Hid (SsaArg f x pb pj k v↔((tn:Int)∈O→domB sc O di tn=true)):=hide (by
       rw [harg.out,if_pos h25]
       exact⟨fun h=>h _ ht.out,fun h t' ht'=>by rw [ht.out] at ht';cases ht';exact h⟩)
      replace h25:=hide h25
      clear he6
      by_cases hto:(tn:Int)∈O
      case neg =>
       rw [decide_eq_false hto] at rt
       have hnx:=hide (hnext.out (fun _=>hT.out.2 fun h=>absurd h hto))
       replace hto:=hide hto
       go_wp2
       go_roundw
       case rel=>exact⟨k+1,by go_num,hltk,hnx,hbQ⟩
       case measure=>simp [intOf];omega
      rw [decide_eq_true hto] at rt
      have t9:=ht2 tn htn Q hbQ
      obtain⟨db,hdb⟩:∃db,Hid (domB sc O di tn=db):=⟨_,hide rfl⟩
      rw [hdb.out] at t9
      cases db with
      | true =>
       have hnx:=hide (hnext.out (fun _=>hT.out.2 fun _=>hdb.out))
       replace hto:=hide hto
       clear ht2
       go_wp2
       go_roundw
       case rel=>exact⟨k+1,by go_num,hltk,hnx,hbQ⟩
       case measure=>simp [intOf];omega
      | false =>
       have hfx:Hid ((11:Int)=0↔PP):=hide ⟨fun h=>by omega,fun h=>absurd h (hno2.out fun h9=>by have:=hT.out.1 h9 hto;rw [hdb.out] at this;cases this)⟩
       replace hto:=hide hto
       clear ht2
       go_upto_region 22 with(fail)
       have hbd:=hbQW.drew
       go_still_tail 11,(by kernel_rfl)
       change wpList _ _ _ _ _ Q.drew
       go_wp2_with (fail)
       refine(Zc _ _ _ _ _).mono ?_
       rintro e X9 ⟨rfl,hb9⟩
       have hk9:Below W.heap.size W X9:=hbd.trans (hb9.mono hbd.size)
       have hR9:X9.heap[R]? = _:=(hk9.block R hRW).trans hR.out
       obtain⟨z0,z1,z2,z3⟩:=Zz hR9
       obtain⟨f0,f1,f2,f3⟩:=Yj hR9
       go_wp2
       refine Yp (c:=11) (k:=(n)) (b:=pb) (i:=pj) ?_ (by rfl) hfx.out (Zs (hwX.out X9 hk9) hRw.out)
       obtain⟨y0,y1,y2,y3⟩:=Zq (u0 := .int .i64 (11)) (u1 := .int .i64 (n)) (u2 := .int .i64 (pb)) (u3 := .int .i64 (pj)) hR9
       simp [results,Tryz.results51,go_sem,y0,y1,y2,y3]
     ·have b25 : (x.op == 25) = false := by rw [beq_eq_false_iff_ne]; exact h25
      have n25:(x.op != 25)=true:=by simpa using h25
      have hT:Hid (SsaArg f x pb pj k v↔if di=pb then dj<pj else domB sc O di pb=true):=hide (by rw [harg.out,if_neg h25])
      replace h25:=hide h25
      have t9:=ht2 pb hpbN Q hbQ
      obtain⟨db,hdb⟩:∃db,Hid (domB sc O di pb=db):=⟨_,hide rfl⟩
      rw [hdb.out] at t9
      clear ht2
      by_cases hde:di=pb
      ·have e3 : ((di : Int) == (pb : Int)) = true := by rw [hde]; simp
       by_cases hdj:dj<pj
       ·have e4 : (dj : Int) < (pj : Int) := by omega
        have e4':decide ((dj:Int)<(pj:Int))=true:=decide_eq_true e4
        have hnx:=hide (hnext.out (fun _=>hT.out.2 (by rw [if_pos hde];exact hdj)))
        replace hde:=hide hde
        go_upto_region 20 with(fail)
        go_quiet (fail)
        have hbU:=Yi hbQ nq
        go_wp2
        go_roundw
        case rel=>exact⟨k+1,by go_num,hltk,hnx,hbU⟩
        case measure=>simp [intOf];omega
       ·have e4 : ¬ (dj : Int) < (pj : Int) := by omega
        have e4':decide ((dj:Int)<(pj:Int))=false:=decide_eq_false e4
        have hfx:Hid ((11:Int)=0↔PP):=hide ⟨fun h=>by omega,fun h=>absurd h (hno2.out fun h9=>by have:=hT.out.1 h9;rw [if_pos hde] at this;exact hdj this)⟩
        replace hde:=hide hde
        go_upto_region 20 with(fail)
        go_quiet (fail)
        have hbU:=Yi hbQ nq
        obtain⟨U,hU⟩:∃U,U=Q.drewN nq:=⟨_,rfl⟩
        rw [←hU] at hbU⊢
        have hbUW:=h0W.out U hbU
        replace hU:=hide hU
        go_upto_region 22 with(fail)
        have hbd:=hbUW.drew
        go_still_tail 11,(by kernel_rfl)
        change wpList _ _ _ _ _ U.drew
        go_wp2_with (fail)
        refine(Zc _ _ _ _ _).mono ?_
        rintro e X9 ⟨rfl,hb9⟩
        have hk9:Below W.heap.size W X9:=hbd.trans (hb9.mono hbd.size)
        have hR9:X9.heap[R]? = _:=(hk9.block R hRW).trans hR.out
        obtain⟨z0,z1,z2,z3⟩:=Zz hR9
        obtain⟨f0,f1,f2,f3⟩:=Yj hR9
        go_wp2
        refine Yp (c:=11) (k:=(n)) (b:=pb) (i:=pj) ?_ (by rfl) hfx.out (Zs (hwX.out X9 hk9) hRw.out)
        obtain⟨y0,y1,y2,y3⟩:=Zq (u0 := .int .i64 (11)) (u1 := .int .i64 (n)) (u2 := .int .i64 (pb)) (u3 := .int .i64 (pj)) hR9
        simp [results,Tryz.results51,go_sem,y0,y1,y2,y3]
      ·have e3 : ((di : Int) == (pb : Int)) = false := by rw [beq_eq_false_iff_ne]; omega
       cases db with
       | true =>
        have hnx:=hide (hnext.out (fun _=>hT.out.2 (by rw [if_neg hde];exact hdb.out)))
        replace hde:=hide hde
        go_wp2
        go_roundw
        case rel=>exact⟨k+1,by go_num,hltk,hnx,hbQ⟩
        case measure=>simp [intOf];omega
       | false =>
        have hfx:Hid ((11:Int)=0↔PP):=hide ⟨fun h=>by omega,fun h=>absurd h (hno2.out fun h9=>by have:=hT.out.1 h9;rw [if_neg hde,hdb.out] at this;cases this)⟩
        replace hde:=hide hde
        go_upto_region 22 with(fail)
        have hbd:=hbQW.drew
        go_still_tail 11,(by kernel_rfl)
        change wpList _ _ _ _ _ Q.drew
        go_wp2_with (fail)
        refine(Zc _ _ _ _ _).mono ?_
        rintro e X9 ⟨rfl,hb9⟩
        have hk9:Below W.heap.size W X9:=hbd.trans (hb9.mono hbd.size)
        have hR9:X9.heap[R]? = _:=(hk9.block R hRW).trans hR.out
        obtain⟨z0,z1,z2,z3⟩:=Zz hR9
        obtain⟨f0,f1,f2,f3⟩:=Yj hR9
        go_wp2
        refine Yp (c:=11) (k:=(n)) (b:=pb) (i:=pj) ?_ (by rfl) hfx.out (Zs (hwX.out X9 hk9) hRw.out)
        obtain⟨y0,y1,y2,y3⟩:=Zq (u0 := .int .i64 (11)) (u1 := .int .i64 (n)) (u2 := .int .i64 (pb)) (u3 := .int .i64 (pj)) hR9
        simp [results,Tryz.results51,go_sem,y0,y1,y2,y3]
    ·have hnx:Hid (∀(j:Nat) x p,j<i+1→l[j]? = some x→pl[j]? = some p→SsaAt f x p):=hide (fun j y q hj hy hq=>by
      rcases Nat.lt_succ_iff_lt_or_eq.1 hj with h|h
      ·exact hok.out j y q h hy hq
      ·subst h
       rw [hx.out] at hy
       rw [hp.out] at hq
       cases hy;cases hq
       intro b j' hbj ho k' v hv
       have e1:b=pb∧j'=pj:=by
        have h9:=hbj
        simp only [Plc.mk.injEq] at h9
        omega
       rw [e1.1,e1.2]
       exact hokk.out k' v (by have:=(Js.1 hv).1;have:=hna.out;omega) hv (by rw [hO.out,←e1.1];exact ho))
     go_wp2
     go_roundw
     case rel=>exact⟨i+1,by go_num,hlt,hnx,hbY⟩
     case measure=>simp [intOf];omega
  ·have hbel := h0W.out V hbel0
   have hfx:Hid PP:=hide (by rw [hPP.out];exact fun j x p hx hp=>hok.out j x p (by have:=(Js.1 hx).1;have:=hnl.out;omega) hx hp)
   have hR9:V.heap[R]? = _:=(hbel.block R hRW).trans hR.out
   obtain⟨z0,z1,z2,z3⟩:=Zz hR9
   obtain⟨f0,f1,f2,f3⟩:=Yj hR9
   go_wp2
   refine Yp (c:=0) (k:=(0)) (b:=0) (i:=0) ?_ (by rfl) ⟨fun _=>hfx.out,fun _=>rfl⟩ (Zs (hwX.out V hbel) hRw.out)
   obtain⟨y0,y1,y2,y3⟩:=Zq (u0 := .int .i64 (0)) (u1 := .int .i64 (0)) (u2 := .int .i64 (0)) (u3 := .int .i64 (0)) hR9
   simp [results,Tryz.results51,go_sem,y0,y1,y2,y3]
def Qs (m:Mod) (f:Fun):Prop:=Yak f.blocks∧FormsOk m f∧RegsOk f∧OpdsOk m f∧PhisOk f∧SsaOk f
def RightP (m:Mod):Prop:=Qm m∧∀(j:Nat) f,m.funcs[j]? = some f→Qs m f
noncomputable def rightB (m:Mod):Bool:=dec8 (RightP m)
theorem only_fact9 {w:World} {Q:Nat→Prop} {B N j:Nat} {u:Value} (h:w.cell? ⟨N,j,none⟩=some u) (hN:N<B) (hQ:¬Q N):∀w',Only Q B w w'→w'.cell? ⟨N,j,none⟩=some u:=fun w' hw=>(hw.cell (p:=⟨N,j,none⟩) hN hQ).trans h
theorem lt_of {X:World} {N:Nat} {o:Obj} (h:X.heap[N]? = some o):N<X.heap.size:=(Array.getElem?_eq_some_iff.1 h).1
theorem kc_set {a X:World} {B N3:Nat} {u0 u1 u2 u3:Value} (h:Only (fun q=>q=N3) B a X):Only (fun q=>q=N3) B a ((((X.setCell ⟨N3,0,none⟩ u0).setCell ⟨N3,1,none⟩ u1).setCell ⟨N3,2,none⟩ u2).setCell ⟨N3,3,none⟩ u3) :=
 (((h.setCell (p:=⟨N3,0,none⟩) (.inl rfl) _).setCell (p:=⟨N3,1,none⟩) (.inl rfl) _).setCell (p:=⟨N3,2,none⟩) (.inl rfl) _).setCell (p:=⟨N3,3,none⟩) (.inl rfl) _
theorem check_any (m : Mod) (m1 m2 m3 : Value) (w : World) (B : Nat) (hB : B ≤ w.heap.size) (ha : RMod.rep w B [m1, m2, m3] m) (hsz : ∀ f, f ∈ m.funcs → Ybo f ≤ 2000000) :
  Calls Tryz.prog 22 #[m.v m1 m2 m3] w (Z2 (RightP m) w):=by
 obtain⟨PP,hPP⟩:∃PP:Prop,Hid (PP=RightP m):=⟨_,hide rfl⟩
 rw [←hPP.out]
 obtain⟨M1,v1,j1,M2,v2,j2,M3,v3,j3,hmf⟩:=Ycc ha
 obtain⟨e1,e2,e3⟩:=hmf
 subst e1 e2 e3
 obtain⟨A5,k5,hM3,hl5,gf⟩:=funs_at (Yby (RMod.later ha (Below.refl _ _) hB)).2.2
 have hv3:v3=m.funcs.length:=by cases hM3;rfl
 have hM3':M3=A5∧j3=k5:=by cases hM3;exact⟨rfl,rfl⟩
 obtain⟨e1,e2⟩:=hM3'
 subst e1 e2
 clear hM3
 rw [←hv3] at hl5 gf
 replace gf:=hide gf
 replace hv3:=hide hv3
 obtain⟨W,hW,hwW,hWs,hx,hy⟩:=Ql w #[.slice M1 v1 j1, .slice M2 v2 j2, .slice M3 v3 j3] #[.int .i64 0, .int .i64 0, .int .i64 0, .int .i64 0] 26 50
 have p0:∀w',Below W.heap.size W w'→w'.cell? ⟨w.heap.size,0,none⟩=some (.slice M1 v1 j1):=hx 0 _ rfl
 have p1:∀w',Below W.heap.size W w'→w'.cell? ⟨w.heap.size,1,none⟩=some (.slice M2 v2 j2):=hx 1 _ rfl
 have p2:∀w',Below W.heap.size W w'→w'.cell? ⟨w.heap.size,2,none⟩=some (.slice M3 v3 j3):=hx 2 _ rfl
 obtain⟨R,hRd⟩:=Jn (w.heap.size+1)
 have hR:Hid (W.heap[R]? = some (.cells #[.int .i64 0, .int .i64 0, .int .i64 0, .int .i64 0] 50 (0,0))):=hide (by
  rw [hRd.out,←hW]
  have:=Yu (w.alloc (.cells #[.slice M1 v1 j1, .slice M2 v2 j2, .slice M3 v3 j3] 26)) (.cells #[.int .i64 0, .int .i64 0, .int .i64 0, .int .i64 0] 50)
  simpa using this)
 have hRW:R<W.heap.size:=by have:=hRd.out;omega
 have hRw:Hid (w.heap.size≤R):=hide (by have:=hRd.out;omega)
 clear hx hy
 have hws:w.heap.size≤W.heap.size:=by omega
 have hwX:Hid (∀w',Below W.heap.size W w'→Below w.heap.size w w'):=hide (fun w' h=>hwW.trans (h.mono hws))
 have hMo:Hid (∀w',Below w.heap.size w w'→RMod.rep w' w'.heap.size [.slice M1 v1 j1, .slice M2 v2 j2, .slice M3 v3 j3] m):=hide (fun w' h=>RMod.later ha (h.mono hB) (Nat.le_trans hB h.size))
 replace ha:=hide ha
 replace hsz:=hide hsz
 have hself:=Below.refl W.heap.size W
 have hwm:w.heap.size<W.heap.size:=by omega
 refine hd3 hWs hW hwW ?_;clear hWs hW hwW;intro hWs hW hwW
 have cH:Hid (∀w',Below W.heap.size W w'→Calls Tryz.prog 45 #[m.v (.slice M1 v1 j1) (.slice M2 v2 j2) (.slice M3 v3 j3)] w' (Z2 (Qm m) w')):=hide (fun w' h=>heads_any m _ _ _ w' w'.heap.size (Nat.le_refl _) (hMo.out w' (hwX.out w' h)))
 go_enter Tryz.func22,Tryz.ntmps22
 go_upto_region 1 with(fail)
 rw [hW.out,←hRd.out]
 clear hW
 go_wp2_with (fail)
 refine(cH.out _ hself).mono ?_
 rintro e H ⟨c,cf,cb,ci,rfl,hcc,hbH⟩
 have hHs:=hbH.size
 obtain⟨X,hX,hwX2,hXs, -⟩:=Y6 H #[.int .i64 c, .int .i64 cf, .int .i64 cb, .int .i64 ci] 50
 obtain⟨N3,hN3⟩:=Jn (H.heap.size)
 have hNX:X.heap[N3]? = some (.cells #[.int .i64 c, .int .i64 cf, .int .i64 cb, .int .i64 ci] 50 (0,0)):=by rw [hN3.out,←hX];exact Yu _ _
 have hWX:Below W.heap.size W X:=hbH.trans (hwX2.mono hHs)
 have hN3W:W.heap.size≤N3:=by rw [hN3.out];exact hHs
 have hN3X:N3<X.heap.size:=lt_of hNX
 have hcc0:Hid (c=0↔Qm m∧∀(j:Nat) f,j<0→m.funcs[j]? = some f→Qs m f):=hide ⟨fun h=>⟨hcc.1 h,fun j f hj=>by omega⟩,fun h=>hcc.2 h.1⟩
 have hXW:Hid (∀w',Only (fun q=>q=N3) X.heap.size X w'→Below W.heap.size W w'):=hide (fun w' h=>hWX.trans (h.to_below (fun q hq=>by subst hq;exact hN3W) hWX.size))
 have r0:∀w',Only (fun q=>q=N3) X.heap.size X w'→w'.cell? ⟨w.heap.size,0,none⟩=some (.slice M1 v1 j1):=fun w' h=>p0 w' (hXW.out w' h)
 have r1:∀w',Only (fun q=>q=N3) X.heap.size X w'→w'.cell? ⟨w.heap.size,1,none⟩=some (.slice M2 v2 j2):=fun w' h=>p1 w' (hXW.out w' h)
 have r2:∀w',Only (fun q=>q=N3) X.heap.size X w'→w'.cell? ⟨w.heap.size,2,none⟩=some (.slice M3 v3 j3):=fun w' h=>p2 w' (hXW.out w' h)
 have honX:=Only.refl (fun q=>q=N3) X.heap.size X
 refine hd5 hcc hXs hwX2 hWX hX ?_;clear hcc hXs hwX2 hWX hX;intro hcc hXs hwX2 hWX hX
 clear p0 p1 p2 hself hbH hHs
 go_upto_region 2 with(fail)
 rw [hX.out,←hN3.out]
 clear hX
 go_wp2
 go_loopw [4,5] (fun s4 s5 wr=>∃(i:Nat) (c cf cb ci:Int),s4 = .int .i64 i∧i≤v3∧wr.heap[N3]? = some (.cells #[.int .i64 c, .int .i64 cf, .int .i64 cb, .int .i64 ci] 50 (0,0))∧Hid (c=0↔Qm m∧∀(j:Nat) f,j<i→m.funcs[j]? = some f→Qs m f)∧Only (fun q=>q=N3) X.heap.size X wr) (fun s4 _ _=>v3 - (intOf s4).toNat)
 case atStart=>exact⟨0,c,cf,cb,ci,rfl,Nat.zero_le _,hNX,hcc0,honX⟩
 case round =>
  clear hNX hcc0 honX hcc
  rename World=>V
  obtain⟨i,c,cf,cb,ci,rfl,hi,hNV,hcc,hon⟩:=hrel
  have hVs:=hon.size
  obtain⟨w0,w1,w2,w3⟩:=Zz hNV
  have r2V:=r2 V hon
  have hend:Hid ((¬i<v3∨¬c=0)→(c=0↔PP)):=hide (fun h=>by
   rw [hPP.out]
   constructor
   ·intro hc
    have h1:=hcc.out.1 hc
    refine⟨h1.1,fun j f hf=>h1.2 j f ?_ hf⟩
    have h2:=(Js.1 hf).1
    have h3:=hv3.out
    rcases h with h|h
    ·omega
    ·exact absurd hc h
   ·intro hp
    exact hcc.out.2 ⟨hp.1,fun j f _ hf=>hp.2 j f hf⟩)
  have hRV:V.heap[R]? = _:=((hXW.out V hon).block R hRW).trans hR.out
  have hRVh:=hide hRV
  have hbVw:=hide (hwX.out V (hXW.out V hon))
  clear hRV
  by_cases hlt:i<v3
  ·have hii : (i : Int) < (v3 : Int) := by omega
   by_cases hc0:c=0
   ·have e0 : (c == 0) = true := by rw [hc0]; rfl
    have hcz:=hide hc0
    obtain⟨f,hf⟩:=Yf (l:=m.funcs) (k:=i) (by rw [←hv3.out];exact hlt)
    have hfm:=hf
    obtain⟨b1,o1,hA1,he⟩:=gf.out (by omega)
    subst hA1
    obtain⟨cp,ep,hra,hc⟩:=he i f hf.out
    obtain⟨hrp,hrb⟩:=Yk hra
    obtain⟨A1,k1,h1, -, -⟩:=Rp.slice1_open hrp
    obtain⟨A2,k2,h2, -, -⟩:=Rp.slice1_open hrb
    cases h1;cases h2
    obtain⟨np,hnp⟩:=Jn (f.params.length)
    obtain⟨N,hN⟩:=Jn (f.blocks.length)
    rw [←hnp.out,←hN.out] at hra hc
    have hfz:=hsz.out f (Jm hf.out)
    obtain⟨s0,s1,s2,s3⟩:=hc.four
    have s0:=s0 V hbVw.out
    have s1:=s1 V hbVw.out
    have s2:=s2 V hbVw.out
    have s3:=s3 V hbVw.out
    obtain⟨Z,hZ,hwZ,hZs,hzc⟩:=Y6 V #[.string f.name, .slice A1 np k1, .int .i64 f.ret, .slice A2 N k2] 32
    have hN3V:=lt_of hNV
    have hNZ:Z.heap[N3]? = _:=(hwZ.block N3 hN3V).trans hNV
    have hXZ0:Only (fun q=>q=N3) X.heap.size X Z:=hon.then_below (Nat.le_refl _) hwZ
    have hXZ:Hid (∀w',Only (fun q=>q=N3) Z.heap.size Z w'→Only (fun q=>q=N3) X.heap.size X w'):=hide (fun w' h=>hXZ0.trans (h.mono hXZ0.size))
    have hZw:Hid (∀w',Only (fun q=>q=N3) Z.heap.size Z w'→Below w.heap.size w w'):=hide (fun w' h=>hwX.out w' (hXW.out w' (hXZ.out w' h)))
    have hM:Hid (∀w',Only (fun q=>q=N3) Z.heap.size Z w'→RMod.rep w' w'.heap.size [.slice M1 v1 j1, .slice M2 v2 j2, .slice (some ⟨b1,o1,none⟩) v3 j3] m):=hide (fun w' h=>hMo.out w' (hZw.out w' h))
    have hFr:Hid (∀w',Only (fun q=>q=N3) Z.heap.size Z w'→RFun.rep w' w'.heap.size [.string f.name, .slice A1 np k1, .int .i64 f.ret, .slice A2 N k2] f):=hide (fun w' h=>RFun.later hra (hZw.out w' h) (hZw.out w' h).size)
    have hVne:V.heap.size≠N3:=by omega
    have hVZ:V.heap.size<Z.heap.size:=by omega
    have hsZ:=Below.refl Z.heap.size Z
    have t0:∀w',Only (fun q=>q=N3) Z.heap.size Z w'→w'.cell? ⟨V.heap.size,0,none⟩=some (.string f.name):=only_fact9 (hzc 0 _ rfl Z hsZ) hVZ hVne
    have t1:∀w',Only (fun q=>q=N3) Z.heap.size Z w'→w'.cell? ⟨V.heap.size,1,none⟩=some (.slice A1 np k1):=only_fact9 (hzc 1 _ rfl Z hsZ) hVZ hVne
    have t2:∀w',Only (fun q=>q=N3) Z.heap.size Z w'→w'.cell? ⟨V.heap.size,2,none⟩=some (.int .i64 f.ret):=only_fact9 (hzc 2 _ rfl Z hsZ) hVZ hVne
    have t3:∀w',Only (fun q=>q=N3) Z.heap.size Z w'→w'.cell? ⟨V.heap.size,3,none⟩=some (.slice A2 N k2):=only_fact9 (hzc 3 _ rfl Z hsZ) hVZ hVne
    have rr0:∀w',Only (fun q=>q=N3) Z.heap.size Z w'→w'.cell? ⟨w.heap.size,0,none⟩=some (.slice M1 v1 j1):=fun w' h=>r0 w' (hXZ.out w' h)
    have rr1:∀w',Only (fun q=>q=N3) Z.heap.size Z w'→w'.cell? ⟨w.heap.size,1,none⟩=some (.slice M2 v2 j2):=fun w' h=>r1 w' (hXZ.out w' h)
    have rr2:∀w',Only (fun q=>q=N3) Z.heap.size Z w'→w'.cell? ⟨w.heap.size,2,none⟩=some (.slice (some ⟨b1,o1,none⟩) v3 j3):=fun w' h=>r2 w' (hXZ.out w' h)
    have c0:Hid (∀w',Only (fun q=>q=N3) Z.heap.size Z w'→Calls Tryz.prog 46 #[f.v (.slice A1 np k1) (.slice A2 N k2), .int .i64 i] w' (Z2 (Yak f.blocks) w')):=hide (fun w' h=>blocks08_any f i (.slice A1 np k1) (.slice A2 N k2) w' w'.heap.size (Nat.le_refl _) (hFr.out w' h) hfz)
    have c1:Hid (∀w',Only (fun q=>q=N3) Z.heap.size Z w'→Calls Tryz.prog 47 #[m.v (.slice M1 v1 j1) (.slice M2 v2 j2) (.slice (some ⟨b1,o1,none⟩) v3 j3),f.v (.slice A1 np k1) (.slice A2 N k2), .int .i64 i] w' (Z2 (FormsOk m f) w')):=hide (fun w' h=>forms08_any m f i (.slice M1 v1 j1) (.slice M2 v2 j2) (.slice (some ⟨b1,o1,none⟩) v3 j3) (.slice A1 np k1) (.slice A2 N k2) w' w'.heap.size (Nat.le_refl _) (hM.out w' h) (hFr.out w' h) hfz)
    have c2:Hid (∀w',Only (fun q=>q=N3) Z.heap.size Z w'→Calls Tryz.prog 48 #[f.v (.slice A1 np k1) (.slice A2 N k2), .int .i64 i] w' (Z2 (RegsOk f) w')):=hide (fun w' h=>registers08_any f i (.slice A1 np k1) (.slice A2 N k2) w' w'.heap.size (Nat.le_refl _) (hFr.out w' h) hfz)
    have c3:Hid (FormsOk m f→∀w',Only (fun q=>q=N3) Z.heap.size Z w'→Calls Tryz.prog 49 #[m.v (.slice M1 v1 j1) (.slice M2 v2 j2) (.slice (some ⟨b1,o1,none⟩) v3 j3),f.v (.slice A1 np k1) (.slice A2 N k2), .int .i64 i] w' (Z2 (OpdsOk m f) w')):=hide (fun h1 w' h=>operands08_any m f i (.slice M1 v1 j1) (.slice M2 v2 j2) (.slice (some ⟨b1,o1,none⟩) v3 j3) (.slice A1 np k1) (.slice A2 N k2) w' w'.heap.size (Nat.le_refl _) (hM.out w' h) (hFr.out w' h) hfz h1)
    have c4:Hid (∀w',Only (fun q=>q=N3) Z.heap.size Z w'→Calls Tryz.prog 50 #[f.v (.slice A1 np k1) (.slice A2 N k2), .int .i64 i] w' (Z2 (PhisOk f) w')):=hide (fun w' h=>phis08_any f i (.slice A1 np k1) (.slice A2 N k2) w' w'.heap.size (Nat.le_refl _) (hFr.out w' h) hfz)
    have c5:Hid (FormsOk m f→OpdsOk m f→PhisOk f→∀w',Only (fun q=>q=N3) Z.heap.size Z w'→Calls Tryz.prog 51 #[f.v (.slice A1 np k1) (.slice A2 N k2), .int .i64 i] w' (Z2 (SsaOk f) w')):=hide (fun h1 h2 h3 w' h=>order08_any m f i (.slice A1 np k1) (.slice A2 N k2) w' w'.heap.size (Nat.le_refl _) (hFr.out w' h) hfz h1 h2 h3)
    have hk0:=Only.refl (fun q=>q=N3) Z.heap.size Z
    have hN0:=hNZ
    refine hd8 hra hrp hrb hwZ hZs hZ hXZ0 hc0 ?_;clear hra hrp hrb hwZ hZs hZ hXZ0 hc0;intro hra hrp hrb hwZ hZs hZ hXZ0 hc0
    clear he hc hzc hNZ
    go_upto_region 6 with(fail)
    rw [hZ.out]
    clear hZ w0 w1 w2 w3 r2V s0 s1 s2 s3 hNV
    go_wp2_with (fail)
    refine(c0.out _ hk0).mono ?_
    rintro e X0 ⟨e00,e01,e02,e03,rfl,hc0,hb0⟩
    have hkx0:Only (fun q=>q=N3) Z.heap.size Z X0:=hk0.then_below (Nat.le_refl _) hb0
    have hNx0:X0.heap[N3]? = _:=(hb0.block N3 (lt_of hN0)).trans hN0
    obtain⟨z0,z1,z2,z3⟩:=Zz hNx0
    obtain⟨f0,f1,f2,f3⟩:=Yj hNx0
    have hk1:=kc_set (u0 := .int .i64 e00) (u1 := .int .i64 e01) (u2 := .int .i64 e02) (u3 := .int .i64 e03) hkx0
    have hN1:=set9 (u0 := .int .i64 e00) (u1 := .int .i64 e01) (u2 := .int .i64 e02) (u3 := .int .i64 e03) hNx0
    obtain⟨V1,hV1⟩:∃V1,Hid ((((X0.setCell ⟨N3,0,none⟩ (.int .i64 e00)).setCell ⟨N3,1,none⟩ (.int .i64 e01)).setCell ⟨N3,2,none⟩ (.int .i64 e02)).setCell ⟨N3,3,none⟩ (.int .i64 e03)=V1):=⟨_,hide rfl⟩
    rw [hV1.out] at hk1 hN1
    obtain⟨u0,u1,u2,u3⟩:=Zz hN1
    by_cases g0:e00=0
    ·have n0 : (e00 == 0) = true := by rw [g0]; rfl
     have h0:=hide (hc0.1 g0)
     replace g0:=hide g0
     replace hc0:=hide hc0
     go_upto_region 7 with(fail)
     rw [hV1.out]
     clear z0 z1 z2 z3 f0 f1 f2 f3 hV1 hkx0 hNx0 hb0
     go_wp2_with (fail)
     refine(c1.out _ hk1).mono ?_
     rintro e X1 ⟨e10,e11,e12,e13,rfl,hc1,hb1⟩
     have hkx1:Only (fun q=>q=N3) Z.heap.size Z X1:=hk1.then_below (Nat.le_refl _) hb1
     have hNx1:X1.heap[N3]? = _:=(hb1.block N3 (lt_of hN1)).trans hN1
     obtain⟨z0,z1,z2,z3⟩:=Zz hNx1
     obtain⟨f0,f1,f2,f3⟩:=Yj hNx1
     have hk2:=kc_set (u0 := .int .i64 e10) (u1 := .int .i64 e11) (u2 := .int .i64 e12) (u3 := .int .i64 e13) hkx1
     have hN2:=set9 (u0 := .int .i64 e10) (u1 := .int .i64 e11) (u2 := .int .i64 e12) (u3 := .int .i64 e13) hNx1
     obtain⟨V2,hV2⟩:∃V2,Hid ((((X1.setCell ⟨N3,0,none⟩ (.int .i64 e10)).setCell ⟨N3,1,none⟩ (.int .i64 e11)).setCell ⟨N3,2,none⟩ (.int .i64 e12)).setCell ⟨N3,3,none⟩ (.int .i64 e13)=V2):=⟨_,hide rfl⟩
     rw [hV2.out] at hk2 hN2
     obtain⟨u0,u1,u2,u3⟩:=Zz hN2
     by_cases g1:e10=0
     ·have n1 : (e10 == 0) = true := by rw [g1]; rfl
      have h1:=hide (hc1.1 g1)
      replace g1:=hide g1
      replace hc1:=hide hc1
      go_upto_region 9 with(fail)
      rw [hV2.out]
      clear z0 z1 z2 z3 f0 f1 f2 f3 hV2 hkx1 hNx1 hb1
      go_wp2_with (fail)
      refine(c2.out _ hk2).mono ?_
      rintro e X2 ⟨e20,e21,e22,e23,rfl,hc2,hb2⟩
      have hkx2:Only (fun q=>q=N3) Z.heap.size Z X2:=hk2.then_below (Nat.le_refl _) hb2
      have hNx2:X2.heap[N3]? = _:=(hb2.block N3 (lt_of hN2)).trans hN2
      obtain⟨z0,z1,z2,z3⟩:=Zz hNx2
      obtain⟨f0,f1,f2,f3⟩:=Yj hNx2
      have hk3:=kc_set (u0 := .int .i64 e20) (u1 := .int .i64 e21) (u2 := .int .i64 e22) (u3 := .int .i64 e23) hkx2
      have hN3:=set9 (u0 := .int .i64 e20) (u1 := .int .i64 e21) (u2 := .int .i64 e22) (u3 := .int .i64 e23) hNx2
      obtain⟨V3,hV3⟩:∃V3,Hid ((((X2.setCell ⟨N3,0,none⟩ (.int .i64 e20)).setCell ⟨N3,1,none⟩ (.int .i64 e21)).setCell ⟨N3,2,none⟩ (.int .i64 e22)).setCell ⟨N3,3,none⟩ (.int .i64 e23)=V3):=⟨_,hide rfl⟩
      rw [hV3.out] at hk3 hN3
      obtain⟨u0,u1,u2,u3⟩:=Zz hN3
      by_cases g2:e20=0
      ·have n2 : (e20 == 0) = true := by rw [g2]; rfl
       have h2:=hide (hc2.1 g2)
       replace g2:=hide g2
       replace hc2:=hide hc2
       go_upto_region 11 with(fail)
       rw [hV3.out]
       clear z0 z1 z2 z3 f0 f1 f2 f3 hV3 hkx2 hNx2 hb2
       go_wp2_with (fail)
       refine(c3.out h1.out _ hk3).mono ?_
       rintro e X3 ⟨e30,e31,e32,e33,rfl,hc3,hb3⟩
       have hkx3:Only (fun q=>q=N3) Z.heap.size Z X3:=hk3.then_below (Nat.le_refl _) hb3
       have hNx3:X3.heap[N3]? = _:=(hb3.block N3 (lt_of hN3)).trans hN3
       obtain⟨z0,z1,z2,z3⟩:=Zz hNx3
       obtain⟨f0,f1,f2,f3⟩:=Yj hNx3
       have hk4:=kc_set (u0 := .int .i64 e30) (u1 := .int .i64 e31) (u2 := .int .i64 e32) (u3 := .int .i64 e33) hkx3
       have hN4:=set9 (u0 := .int .i64 e30) (u1 := .int .i64 e31) (u2 := .int .i64 e32) (u3 := .int .i64 e33) hNx3
       obtain⟨V4,hV4⟩:∃V4,Hid ((((X3.setCell ⟨N3,0,none⟩ (.int .i64 e30)).setCell ⟨N3,1,none⟩ (.int .i64 e31)).setCell ⟨N3,2,none⟩ (.int .i64 e32)).setCell ⟨N3,3,none⟩ (.int .i64 e33)=V4):=⟨_,hide rfl⟩
       rw [hV4.out] at hk4 hN4
       obtain⟨u0,u1,u2,u3⟩:=Zz hN4
       by_cases g3:e30=0
       ·have n3 : (e30 == 0) = true := by rw [g3]; rfl
        have h3:=hide (hc3.1 g3)
        replace g3:=hide g3
        replace hc3:=hide hc3
        go_upto_region 13 with(fail)
        rw [hV4.out]
        clear z0 z1 z2 z3 f0 f1 f2 f3 hV4 hkx3 hNx3 hb3
        go_wp2_with (fail)
        refine(c4.out _ hk4).mono ?_
        rintro e X4 ⟨e40,e41,e42,e43,rfl,hc4,hb4⟩
        have hkx4:Only (fun q=>q=N3) Z.heap.size Z X4:=hk4.then_below (Nat.le_refl _) hb4
        have hNx4:X4.heap[N3]? = _:=(hb4.block N3 (lt_of hN4)).trans hN4
        obtain⟨z0,z1,z2,z3⟩:=Zz hNx4
        obtain⟨f0,f1,f2,f3⟩:=Yj hNx4
        have hk5:=kc_set (u0 := .int .i64 e40) (u1 := .int .i64 e41) (u2 := .int .i64 e42) (u3 := .int .i64 e43) hkx4
        have hN5:=set9 (u0 := .int .i64 e40) (u1 := .int .i64 e41) (u2 := .int .i64 e42) (u3 := .int .i64 e43) hNx4
        obtain⟨V5,hV5⟩:∃V5,Hid ((((X4.setCell ⟨N3,0,none⟩ (.int .i64 e40)).setCell ⟨N3,1,none⟩ (.int .i64 e41)).setCell ⟨N3,2,none⟩ (.int .i64 e42)).setCell ⟨N3,3,none⟩ (.int .i64 e43)=V5):=⟨_,hide rfl⟩
        rw [hV5.out] at hk5 hN5
        obtain⟨u0,u1,u2,u3⟩:=Zz hN5
        by_cases g4:e40=0
        ·have n4 : (e40 == 0) = true := by rw [g4]; rfl
         have h4:=hide (hc4.1 g4)
         replace g4:=hide g4
         replace hc4:=hide hc4
         go_upto_region 15 with(fail)
         rw [hV5.out]
         clear z0 z1 z2 z3 f0 f1 f2 f3 hV5 hkx4 hNx4 hb4
         go_wp2_with (fail)
         refine(c5.out h1.out h3.out h4.out _ hk5).mono ?_
         rintro e X5 ⟨e50,e51,e52,e53,rfl,hc5,hb5⟩
         have hkx5:Only (fun q=>q=N3) Z.heap.size Z X5:=hk5.then_below (Nat.le_refl _) hb5
         have hNx5:X5.heap[N3]? = _:=(hb5.block N3 (lt_of hN5)).trans hN5
         obtain⟨z0,z1,z2,z3⟩:=Zz hNx5
         obtain⟨f0,f1,f2,f3⟩:=Yj hNx5
         have hk6:=kc_set (u0 := .int .i64 e50) (u1 := .int .i64 e51) (u2 := .int .i64 e52) (u3 := .int .i64 e53) hkx5
         have hN6:=set9 (u0 := .int .i64 e50) (u1 := .int .i64 e51) (u2 := .int .i64 e52) (u3 := .int .i64 e53) hNx5
         obtain⟨V6,hV6⟩:∃V6,Hid ((((X5.setCell ⟨N3,0,none⟩ (.int .i64 e50)).setCell ⟨N3,1,none⟩ (.int .i64 e51)).setCell ⟨N3,2,none⟩ (.int .i64 e52)).setCell ⟨N3,3,none⟩ (.int .i64 e53)=V6):=⟨_,hide rfl⟩
         rw [hV6.out] at hk6 hN6
         obtain⟨u0,u1,u2,u3⟩:=Zz hN6
         by_cases g5:e50=0
         ·have n5 : (e50 == 0) = true := by rw [g5]; rfl
          have hfr:Qs m f:=⟨h0.out,h1.out,h2.out,h3.out,h4.out,hc5.1 g5⟩
          have hnx:Hid (e50=0↔Qm m∧∀(j:Nat) f,j<i+1→m.funcs[j]? = some f→Qs m f):=hide ⟨fun _=>⟨(hcc.out.1 hcz.out).1,fun j y hj hy=>by
           rcases Nat.lt_succ_iff_lt_or_eq.1 hj with h|h
           ·exact(hcc.out.1 hcz.out).2 j y h hy
           ·subst h
            rw [hfm.out] at hy
            cases hy
            exact hfr⟩,fun _=>g5⟩
          have hon9:=hXZ.out _ hk6
          replace g5:=hide g5
          replace hfr:=hide hfr
          go_upto_region 4 with(fail)
          rw [hV6.out]
          clear z0 z1 z2 z3 f0 f1 f2 f3
          go_wp2
          go_roundw
          case rel=>exact⟨i+1,e50,e51,e52,e53,by go_num,hlt,hN6,hnx,hon9⟩
          case measure=>simp [intOf];omega
         ·have n5 : (e50 == 0) = false := by rw [beq_eq_false_iff_ne]; exact g5
          have hnx:Hid (e50=0↔Qm m∧∀(j:Nat) f,j<i+1→m.funcs[j]? = some f→Qs m f):=hide ⟨fun h=>absurd h g5,fun h=>absurd (hc5.2 ((h.2 i f (Nat.lt_succ_self i) hfm.out).2.2.2.2.2)) g5⟩
          have hon9:=hXZ.out _ hk6
          replace g5:=hide g5
          go_upto_region 4 with(fail)
          rw [hV6.out]
          clear z0 z1 z2 z3 f0 f1 f2 f3
          go_wp2
          go_roundw
          case rel=>exact⟨i+1,e50,e51,e52,e53,by go_num,hlt,hN6,hnx,hon9⟩
          case measure=>simp [intOf];omega
        ·have n4 : (e40 == 0) = false := by rw [beq_eq_false_iff_ne]; exact g4
         have hnx:Hid (e40=0↔Qm m∧∀(j:Nat) f,j<i+1→m.funcs[j]? = some f→Qs m f):=hide ⟨fun h=>absurd h g4,fun h=>absurd (hc4.2 ((h.2 i f (Nat.lt_succ_self i) hfm.out).2.2.2.2.1)) g4⟩
         have hon9:=hXZ.out _ hk5
         replace g4:=hide g4
         go_upto_region 15 with(fail)
         rw [hV5.out]
         clear z0 z1 z2 z3 f0 f1 f2 f3
         go_wp2
         go_roundw
         case rel=>exact⟨i+1,e40,e41,e42,e43,by go_num,hlt,hN5,hnx,hon9⟩
         case measure=>simp [intOf];omega
       ·have n3 : (e30 == 0) = false := by rw [beq_eq_false_iff_ne]; exact g3
        have hnx:Hid (e30=0↔Qm m∧∀(j:Nat) f,j<i+1→m.funcs[j]? = some f→Qs m f):=hide ⟨fun h=>absurd h g3,fun h=>absurd (hc3.2 ((h.2 i f (Nat.lt_succ_self i) hfm.out).2.2.2.1)) g3⟩
        have hon9:=hXZ.out _ hk4
        replace g3:=hide g3
        go_upto_region 13 with(fail)
        rw [hV4.out]
        clear z0 z1 z2 z3 f0 f1 f2 f3
        go_wp2
        go_roundw
        case rel=>exact⟨i+1,e30,e31,e32,e33,by go_num,hlt,hN4,hnx,hon9⟩
        case measure=>simp [intOf];omega
      ·have n2 : (e20 == 0) = false := by rw [beq_eq_false_iff_ne]; exact g2
       have hnx:Hid (e20=0↔Qm m∧∀(j:Nat) f,j<i+1→m.funcs[j]? = some f→Qs m f):=hide ⟨fun h=>absurd h g2,fun h=>absurd (hc2.2 ((h.2 i f (Nat.lt_succ_self i) hfm.out).2.2.1)) g2⟩
       have hon9:=hXZ.out _ hk3
       replace g2:=hide g2
       go_upto_region 11 with(fail)
       rw [hV3.out]
       clear z0 z1 z2 z3 f0 f1 f2 f3
       go_wp2
       go_roundw
       case rel=>exact⟨i+1,e20,e21,e22,e23,by go_num,hlt,hN3,hnx,hon9⟩
       case measure=>simp [intOf];omega
     ·have n1 : (e10 == 0) = false := by rw [beq_eq_false_iff_ne]; exact g1
      have hnx:Hid (e10=0↔Qm m∧∀(j:Nat) f,j<i+1→m.funcs[j]? = some f→Qs m f):=hide ⟨fun h=>absurd h g1,fun h=>absurd (hc1.2 ((h.2 i f (Nat.lt_succ_self i) hfm.out).2.1)) g1⟩
      have hon9:=hXZ.out _ hk2
      replace g1:=hide g1
      go_upto_region 9 with(fail)
      rw [hV2.out]
      clear z0 z1 z2 z3 f0 f1 f2 f3
      go_wp2
      go_roundw
      case rel=>exact⟨i+1,e10,e11,e12,e13,by go_num,hlt,hN2,hnx,hon9⟩
      case measure=>simp [intOf];omega
    ·have n0 : (e00 == 0) = false := by rw [beq_eq_false_iff_ne]; exact g0
     have hnx:Hid (e00=0↔Qm m∧∀(j:Nat) f,j<i+1→m.funcs[j]? = some f→Qs m f):=hide ⟨fun h=>absurd h g0,fun h=>absurd (hc0.2 ((h.2 i f (Nat.lt_succ_self i) hfm.out).1)) g0⟩
     have hon9:=hXZ.out _ hk1
     replace g0:=hide g0
     go_upto_region 7 with(fail)
     rw [hV1.out]
     clear z0 z1 z2 z3 f0 f1 f2 f3
     go_wp2
     go_roundw
     case rel=>exact⟨i+1,e00,e01,e02,e03,by go_num,hlt,hN1,hnx,hon9⟩
     case measure=>simp [intOf];omega
   ·have e0 : (c == 0) = false := by rw [beq_eq_false_iff_ne]; exact hc0
    have hfx:=hide (hend.out (.inr hc0))
    have hR9:=hRVh.out
    replace hc0:=hide hc0
    obtain⟨z0,z1,z2,z3⟩:=Zz hR9
    obtain⟨f0,f1,f2,f3⟩:=Yj hR9
    go_wp2
    refine Yp (c:=c) (k:=(cf)) (b:=cb) (i:=ci) ?_ (by rfl) hfx.out (Zs (hbVw.out) hRw.out)
    obtain⟨y0,y1,y2,y3⟩:=Zq (u0 := .int .i64 (c)) (u1 := .int .i64 (cf)) (u2 := .int .i64 (cb)) (u3 := .int .i64 (ci)) hR9
    simp [results,Tryz.results22,go_sem,y0,y1,y2,y3]
  ·have hni : ¬ (i : Int) < (v3 : Int) := by omega
   have hfx:=hide (hend.out (.inl hlt))
   have hR9:=hRVh.out
   obtain⟨z0,z1,z2,z3⟩:=Zz hR9
   obtain⟨f0,f1,f2,f3⟩:=Yj hR9
   go_wp2
   refine Yp (c:=c) (k:=(cf)) (b:=cb) (i:=ci) ?_ (by rfl) hfx.out (Zs (hbVw.out) hRw.out)
   obtain⟨y0,y1,y2,y3⟩:=Zq (u0 := .int .i64 (c)) (u1 := .int .i64 (cf)) (u2 := .int .i64 (cb)) (u3 := .int .i64 (ci)) hR9
   simp [results,Tryz.results22,go_sem,y0,y1,y2,y3]
theorem right_any (m : Mod) (m1 m2 m3 : Value) (w : World) (B : Nat) (hB : B ≤ w.heap.size) (ha : RMod.rep w B [m1, m2, m3] m) (hsz : ∀ f, f ∈ m.funcs → Ybo f ≤ 2000000) :
  Calls Tryz.prog 8 #[m.v m1 m2 m3] w (RetB (rightB m) w):=by
 obtain⟨M1,v1,j1,M2,v2,j2,M3,v3,j3,hmf⟩:=Ycc ha
 obtain⟨e1,e2,e3⟩:=hmf
 subst e1 e2 e3
 obtain⟨W,hW,hwW,hWs,hx⟩:=Y6 w #[.slice M1 v1 j1, .slice M2 v2 j2, .slice M3 v3 j3] 26
 have p0:=hx 0 _ rfl
 have p1:=hx 1 _ rfl
 have p2:=hx 2 _ rfl
 clear hx
 have hself:=Below.refl W.heap.size W
 have cC:=hide (check_any m _ _ _ W W.heap.size (Nat.le_refl _) (RMod.later ha (hwW.mono hB) (Nat.le_trans hB hwW.size)) hsz)
 replace ha:=hide ha
 have hws:w.heap.size≤W.heap.size:=by omega
 refine hd3 hWs hW hwW ?_;clear hWs hW hwW;intro hWs hW hwW
 go_enter Tryz.func8,Tryz.ntmps8
 go_upto_region 1 with(fail)
 rw [hW.out]
 clear hW
 go_wp2_with (fail)
 refine cC.out.mono ?_
 rintro e X ⟨c,cf,cb,ci,rfl,hcc,hb⟩
 have hfin:Hid (∀Y,Below X.heap.size X Y→RetB (rightB m) w (.returned (.bool (c==0))) Y):=hide (fun Y hY=>⟨by
  have:(c==0)=rightB m:=by
   unfold rightB
   rw [Bool.eq_iff_iff,beq_iff_eq,dec8_iff]
   exact hcc
  rw [this],hwW.out.trans ((hb.trans (hY.mono hb.size)).mono hws)⟩)
 have hal:=bk X (.cells #[.int .i64 c, .int .i64 cf, .int .i64 cb, .int .i64 ci] 50)
 replace hcc:=hide hcc
 go_wp2
 go_ret
 exact hfin.out _ hal
end Go.Proofs.YtamjcafjdioidaaGreat
