/- Texts of the chain, without what is not wanted: RfG, RfK, RfH. No condition but sizes. -/
import Derived.Test.YtamjcafjdioidaaGreatUw18
set_option linter.unusedVariables false
set_option linter.unusedSimpArgs false
set_option maxRecDepth 100000
set_option maxHeartbeats 12800000
namespace Go.Proofs.YtamjcafjdioidaaGreat
open Go.RowKit
def mapL (g:Ins→Ins) (l:List Ins) (i:Nat):List Ins:=(l.take i).map g++l.drop i
theorem mapL_zero (g:Ins→Ins) (l:List Ins):mapL g l 0=l:=by simp [mapL]
theorem mapL_end (g:Ins→Ins) (l:List Ins):mapL g l l.length=l.map g:=by simp [mapL]
theorem mapL_len (g:Ins→Ins) (l:List Ins) (i:Nat):(mapL g l i).length=l.length:=by unfold mapL;simp;omega
theorem mapL_at {g:Ins→Ins} {l:List Ins} {i:Nat} {x:Ins} (h:l[i]? = some x):(mapL g l i)[i]? = some x:=by
 have h1:=(Js.1 h).1
 unfold mapL
 rw [List.getElem?_append_right (by simp;omega),List.length_map,List.length_take,Nat.min_eq_left (by omega),Nat.sub_self,List.getElem?_drop]
 exact h
theorem mapL_next {g:Ins→Ins} {l:List Ins} {i:Nat} {x:Ins} (h:l[i]? = some x):(mapL g l i).set i (g x)=mapL g l (i+1):=by
 have h1:=(Js.1 h).1
 have h2:l.drop i=x :: l.drop (i+1):=by
  rw [Jg h1] at h
  injection h with h
  rw [←h,List.getElem_cons_drop]
 have h3:((l.take i).map g).length=i:=by simp;omega
 unfold mapL
 rw [h2,List.set_append_right _ _ (by omega),h3,Nat.sub_self,List.set_cons_zero,List.take_add_one,h,List.map_append]
 simp
theorem MF.gives {w w':World} {T:Nat→Prop} {N b:Nat} {g:Fun} {c d:Value} (h:MF w T N g c d) (hT:∀k,T k→b≤k) (hc:∀k,c.ownBlock=some k→b≤k) (hk:∀k,b≤k→w'.heap[k]? = w.heap[k]?):OwnI w' b c g.params∧OwnK w' b d g.blocks:=by
 obtain⟨xs,ess,h1,h2⟩:=h.tree
 exact⟨⟨Qh (Yc h.par.row fun k hv=>hk k (hc k hv)) hc,h.par.ok⟩,((h1.tb_kept fun k hk1 hk2=>hk k (hT k (h2 k hk2))).raise fun k h9=>hT k (h2 k h9)).own⟩
theorem lostI_ok {gone:List Int} {x:Ins} (h:Ybr x):Ybr (Zg gone x):=by
 unfold Zg
 split
 ·exact h
 ·exact h
theorem rlose_any (f : Fun) (b : Nat) (l : List Ins) (hl : f.blocks[b]? = some l) (gone : List Int) (Ag : Option Addr) (Cg : Nat) (c1 d1 : Value) (w : World) (B : Nat) (hB : B ≤ w.heap.size) (hf : RFun.rep w B [.string f.name, c1, .int .i64 f.ret, d1] f) (hs : Zo f) (hg : OwnI w 0 (.slice Ag gone.length Cg) gone) (hgl : gone.length ≤ 4000000) (hph : PhiLen l) :
  Calls Tryz.prog 67 #[f.v c1 d1, .int .i64 b, .slice Ag gone.length Cg] w (GivesF f (f.blocks.set b (l.map (Zg gone))) w):=by
 obtain⟨ng,hng⟩:=Jn (gone.length)
 rw [←hng.out]
 obtain⟨m,hm⟩:=Jn (l.length)
 have hmle:m≤2000000:=by rw [hm.out];exact(hs.code l (Jm hl)).1
 refine hd3 hl hph hg ?_;clear hl hph hg;intro hl hph hg
 obtain⟨-, -, -, -, -,hret,hnm⟩:=id hf
 obtain⟨hp,hb⟩:=Yk (RFun.later hf (Below.refl _ _) hB)
 obtain⟨A1,k1,h1, -, -⟩:=Rp.slice1_open hp
 obtain⟨A2,k2,h2,hm2, -⟩:=Rp.slice1_open hb
 cases h1;cases h2
 clear hp hb hm2
 obtain⟨n,hn⟩:=Jn (f.blocks.length)
 obtain⟨np,hnp⟩:∃n,Hid (n=f.params.length):=⟨_,hide rfl⟩
 have hnle:n≤2000000:=by rw [hn.out];exact hs.blocks
 rw [←hn.out,←hnp.out] at hf⊢
 obtain⟨W,hW,hwW,hWs,hx1,hx2⟩:=Ql w #[.string f.name, .slice A1 np k1, .int .i64 f.ret, .slice A2 n k2] #[.string ⟨#[]⟩, .slice none 0 0, .int .i64 0, .slice none 0 0] 32 32
 obtain⟨Nr,hNr⟩:=Jn (w.heap.size+1)
 have hR0:W.heap[Nr]? = some (.cells #[.string ⟨#[]⟩, .slice none 0 0, .int .i64 0, .slice none 0 0] 32 (0,0)):=by
  rw [←hW,hNr.out]
  have:=Yu (w.alloc (.cells #[.string f.name, .slice A1 np k1, .int .i64 f.ret, .slice A2 n k2] 32)) (.cells #[.string ⟨#[]⟩, .slice none 0 0, .int .i64 0, .slice none 0 0] 32)
  simpa using this
 have hself:=Below.refl W.heap.size W
 have q0:=hx1 0 _ rfl W hself
 have q1:=hx1 1 _ rfl W hself
 have q2:=hx1 2 _ rfl W hself
 have q3:=hx1 3 _ rfl W hself
 have hNrW:Nr<W.heap.size:=(Array.getElem?_eq_some_iff.1 hR0).1
 have hNrw:w.heap.size≤Nr:=by have:=hNr.out;omega
 have hws:w.heap.size≤W.heap.size:=hwW.size
 have cC:=hide (Qp f (.slice A1 np k1) (.slice A2 n k2) W B (by omega) (RFun.later hf (hwW.mono hB) (Nat.le_refl _)) hs)
 refine hd8 hR0 hs hf hwW hWs hW hret hnm ?_;clear hR0 hs hf hwW hWs hW hret hnm;intro hR0 hs hf hwW hWs hW hret hnm
 clear hx1 hx2
 go_enter Tryz.func67,Tryz.ntmps67
 go_upto_region 1 with(fail)
 rw [hW.out,←hNr.out]
 go_wp2_with (fail)
 refine cC.out.mono ?_
 rintro e V ⟨c,d,L,rfl,hOI,hPL,hOK,hL0,hbV⟩
 obtain⟨Am,Cm,hcm⟩:=Yd hOI.row
 subst hcm
 obtain⟨Ad,Cd,hdm⟩:=hOK.form
 subst hdm
 rw [←hnp.out] at hOI hPL⊢
 rw [←hn.out] at hOK⊢
 obtain⟨X,hX⟩:∃X,Hid (V.alloc (.cells #[.string f.name, .slice Am np Cm, .int .i64 f.ret, .slice Ad n Cd] 32)=X):=⟨_,hide rfl⟩
 obtain⟨hM0,hWX,hXs⟩:=Yci hOI hPL hOK hL0 hbV hX.out.symm hret.out hnm.out
 obtain⟨N,hN⟩:=Jn (V.heap.size)
 have hNW:W.heap.size≤N:=by rw [hN.out];exact hbV.size
 rw [←hN.out] at hM0
 have hT0:Hid (∀k,(fun k=>L≤k∧k<N) k→W.heap.size≤k):=hide (fun k hk=>by have:=hk.1;omega)
 have hcW:Hid (∀k,(Value.slice Am np Cm).ownBlock=some k→W.heap.size≤k):=hide (fun k hk=>(Ya hOI.row hk).1)
 have hselfX:=Below.refl X.heap.size X
 refine hd4 hM0 hbV hXs hL0 ?_;clear hM0 hbV hXs hL0;intro hM0 hbV hXs hL0
 clear hOI hPL hOK q0 q1 q2 q3 cC hself
 go_upto_region 2 with(fail)
 rw [hX.out,←hN.out]
 clear hX
 have hbn:b<n:=by rw [hn.out];exact(Js.1 hl.out).1
 have hbi:(b:Int)<(n:Int):=by omega
 have hM1:Hid (MF X (fun k=>L≤k∧k<N) N (Ye f (f.blocks.set b (mapL (Zg gone) l 0))) (.slice Am np Cm) (.slice Ad n Cd)):=hide (by rw [mapL_zero,Qo hl.out];exact hM0.out)
 clear hM0
 go_wp2
 go_loopw [8] (fun s wr=>∃(i:Nat) (T1:Nat→Prop),s = .int .i64 i∧i≤m∧Hid (MF wr T1 N (Ye f (f.blocks.set b (mapL (Zg gone) l i))) (.slice Am np Cm) (.slice Ad n Cd))∧Hid (∀k,T1 k→W.heap.size≤k)∧Below W.heap.size W wr) (fun s _=>m - (intOf s).toNat)
 case atStart=>exact⟨0,_,rfl,Nat.zero_le _,hM1,hT0,hWX⟩
 case round =>
  clear hM1 hT0 hWX hselfX
  rename World=>V1
  obtain⟨i,T1,rfl,hi,hM,hT1,hbV1⟩:=hrel
  have hV1s:=hbV1.size
  obtain⟨xs,ess,hk,hTB⟩:=hM.out.tree
  have hbs:(Ye f (f.blocks.set b (mapL (Zg gone) l i))).blocks[b]? = some (mapL (Zg gone) l i):=Jf (by rw [←hn.out];exact hbn)
  have hbl:(Ye f (f.blocks.set b (mapL (Zg gone) l i))).blocks.length=n:=by
   show(f.blocks.set b _).length=n
   rw [List.length_set,hn.out]
  obtain⟨x,es,hx,he,hcd⟩:=hk.row_at hbs
  obtain⟨gd,CD9,hgdf, -,hgd⟩:=hk.row.form (by rw [hbl];omega)
  have hAd:=(Value.slice.inj hgdf).1
  subst hAd
  clear hgdf
  obtain⟨Ax,Cx,hxf⟩:=Yd hcd.row
  have hml:(mapL (Zg gone) l i).length=m:=by rw [mapL_len,hm.out]
  rw [hml] at hxf
  subst hxf
  have hgdl:gd<V1.heap.size:=(Ya hk.row rfl).2.1
  have hNl:=hM.out.lt
  have f3':=Yg (Yb hM.out.box 3 rfl) hNl
  have fx:=Yg (hk.blk_cell hx) hgdl
  have hself1:=Below.refl V1.heap.size V1
  have f3V:=f3' V1 hself1
  have fxV:=fx V1 hself1
  by_cases hlt:i<m
  ·have hii : (i : Int) < (m : Int) := by omega
   obtain⟨ins,hins⟩:=Yf (l:=l) (k:=i) (by rw [←hm.out];exact hlt)
   have hri:Hid ((mapL (Zg gone) l i)[i]? = some ins):=hide (mapL_at hins.out)
   obtain⟨ca,ct,hei,hva,hvt,hok⟩:=hcd.ins_at hri.out
   obtain⟨gc,CX9,hgcf, -,hgcl⟩:=hcd.row.form (by rw [hml];omega)
   have hAx:=(Value.slice.inj hgcf).1
   subst hAx
   clear hgcf
   obtain⟨Aa,Ca,hcaf⟩:=Yd hva.row
   subst hcaf
   obtain⟨At,Ct,hctf⟩:=Yd hvt.row
   subst hctf
   obtain⟨na,hna⟩:=Jn (ins.args.length)
   obtain⟨nt,hnt⟩:=Jn (ins.to.length)
   rw [←hna.out] at hei hva
   rw [←hnt.out] at hei hvt
   have hgcl2:gc<V1.heap.size:=(Ya hcd.row rfl).2.1
   obtain⟨e0,e1,e2,e3,e4,e5,e6⟩:=cell7 hcd hri.out hei
   have f0:=Yg e0 hgcl2
   have f1:=Yg e1 hgcl2
   have f2:=Yg e2 hgcl2
   have f3:=Yg e3 hgcl2
   have f4:=Yg e4 hgcl2
   have f5:=Yg e5 hgcl2
   have f6:=Yg e6 hgcl2
   have hrow7:=hide hcd.row
   have hinl:=Jm hins.out
   have cL:Hid (∀w',Below V1.heap.size V1 w'→Calls Tryz.prog 107 #[ins.v (.slice Aa na Ca) (.slice At nt Ct), .slice Ag ng Cg] w' (InsOwn (Zg gone ins) (.slice Aa na Ca) (.slice At nt Ct) w')):=hide (fun w' h9=>by
    have hgw:OwnI w' 0 (.slice Ag gone.length Cg) gone:=by
     exact hg.out.kept fun k _ hk=>(hwW.out.trans ((hbV1.mono hws).trans (h9.mono (by omega)))).block k hk
    have h8:=rlost_any ins (.slice Aa na Ca) (.slice At nt Ct) gone Ag Cg w' (hva.kept fun k _ hk=>h9.block k hk) (hvt.kept fun k _ hk=>h9.block k hk) hgw hgl (hph.out ins hinl) ((hs.out.code l (Jm hl.out)).2 ins hinl).2
    rwa [←hng.out] at h8)
   refine hd12 hx he hei hva hvt hok hcd hk hTB hbs hbl hinl ?_;clear hx he hei hva hvt hok hcd hk hTB hbs hbl hinl;intro hx he hei hva hvt hok hcd hk hTB hbs hbl hinl
   clear e0 e1 e2 e3 e4 e5 e6 hml
   go_upto_region 5 with(fail)
   refine Y8 (S:=fun u=>Below V1.heap.size V1 u) (T:=fun j=>decide (j<18)) (by kernel_rfl) ?_
   obtain⟨R0,hR9⟩:∃R0,V1.drew=R0:=⟨_,rfl⟩
   have hS0:Hid (Below V1.heap.size V1 R0):=hide (by rw [←hR9];exact hself1.drew)
   rw [hR9]
   clear hR9 f3V fxV
   refine Jt (i:=0) hS0.out ?_
   refine Jt (i:=1) hS0.out ?_
   refine Jt (i:=2) hS0.out ?_
   refine Jt (i:=3) hS0.out ?_
   refine Jt (i:=4) hS0.out ?_
   refine Jt (i:=5) hS0.out ?_
   refine Jt (i:=6) hS0.out ?_
   refine Jt (i:=7) hS0.out ?_
   refine Jt (i:=8) hS0.out ?_
   refine Jt (i:=9) hS0.out ?_
   refine Jt (i:=10) hS0.out ?_
   refine Jt (i:=11) hS0.out ?_
   refine Jt (i:=12) hS0.out ?_
   refine Jt (i:=13) hS0.out ?_
   refine Jt (i:=14) hS0.out ?_
   refine Jt (i:=15) hS0.out ?_
   refine Jt (i:=16) hS0.out ?_
   refine Jr (i:=17) fun K hK => ?_
   (try go_simp)
   go_at_call 107
   refine(cL.out _ hS0.out).mono ?_
   rintro e K1 ⟨c9,t9,rfl,hV9,hI9,hc9,ht9,hbK⟩
   obtain⟨A9,C9,hcf9⟩:=Yd hV9.row
   subst hcf9
   obtain⟨B9,D9,htf9⟩:=Yd hI9.row
   subst htf9
   obtain⟨n9,hn9⟩:=Jn ((Zg gone ins).args.length)
   obtain⟨m9,hm9⟩:=Jn ((Zg gone ins).to.length)
   rw [←hn9.out] at hV9 hc9⊢
   rw [←hm9.out] at hI9 ht9⊢
   have hS1:Hid (Below V1.heap.size V1 K1):=hide (hS0.out.trans (hbK.mono hS0.out.size))
   have o0:=f0 K1 hS1.out
   have o1:=f1 K1 hS1.out
   have o2:=f2 K1 hS1.out
   have o3:=f3 K1 hS1.out
   have o4:=f4 K1 hS1.out
   have o5:=f5 K1 hS1.out
   have o6:=f6 K1 hS1.out
   have hrK:=Yc hrow7.out (w':=K1) fun k hk=>hS1.out.block k (Ya hrow7.out hk).2.1
   have xz:∀j,K1.frozen? ⟨gc,j,none⟩=false:=fun j=>Zj hrK j
   have y0:=xz (i*7)
   have y1:=xz (i*7+1)
   have y2:=xz (i*7+2)
   have y3:=xz (i*7+3)
   have y4:=xz (i*7+4)
   have y5:=xz (i*7+5)
   have y6:=xz (i*7+6)
   clear xz
   refine hd6 hrK hV9 hI9 hc9 ht9 hbK ?_;clear hrK hV9 hI9 hc9 ht9 hbK;intro hrK hV9 hI9 hc9 ht9 hbK
   refine Jo hK (fun _=>hS1.out) ?_;clear hK K
   refine Jy (i:=18) ?_
   refine Jr (i:=19) fun K hK => ?_
   go_simp
   refine Jo hK (fun h=>absurd h (by decide)) ?_;clear hK K
   refine Yv (by kernel_rfl) ?_ _
   have hfin:=hide (MF.ins7g hM.out hk.out hTB.out hbs.out hx.out he.out hri.out hei.out hS1.out (c' := .slice A9 n9 C9) (t' := .slice B9 m9 D9) (x:=Zg gone ins) hV9.out hI9.out (lostI_ok hok.out) (fun k hk=>(hc9.out k hk).imp_right fun h9=>by have:=hS0.out.size;omega) (fun k hk=>(ht9.out k hk).imp_right fun h9=>by have:=hS0.out.size;omega))
   have hM2:Hid (MF (Ybc K1 gc (i*7) (Zg gone ins) (.slice A9 n9 C9) (.slice B9 m9 D9)) (fun k=>T1 k∨V1.heap.size≤k) N (Ye f (f.blocks.set b (mapL (Zg gone) l (i+1)))) (.slice Am np Cm) (.slice (some ⟨gd,0,none⟩) n Cd)):=hide (by
    have h9:=hfin.out.1
    have e9:(Ye f (f.blocks.set b (mapL (Zg gone) l i))).blocks.set b ((mapL (Zg gone) l i).set i (Zg gone ins))=f.blocks.set b (mapL (Zg gone) l (i+1)):=by
     show(f.blocks.set b _).set b _=_
     rw [mapL_next hins.out,List.set_set]
    rw [e9] at h9
    exact h9)
   have hT2:Hid (∀k,(fun k=>T1 k∨V1.heap.size≤k) k→W.heap.size≤k):=hide (fun k hk=>hk.elim (fun h9=>hT1.out k h9) (fun h9=>by omega))
   have hb2:Below W.heap.size W (Ybc K1 gc (i*7) (Zg gone ins) (.slice A9 n9 C9) (.slice B9 m9 D9)):=by
    have h9:=hfin.out.2
    have h8:Below W.heap.size V1 (Ybc K1 gc (i*7) (Zg gone ins) (.slice A9 n9 C9) (.slice B9 m9 D9)):=h9.to_below (B':=W.heap.size) (fun k hk=>by
     rcases hk with hk|hk
     ·omega
     ·exact hT1.out k hk) hV1s
    exact hbV1.trans h8
   replace hfin:=hide hfin
   go_wp2
   go_roundw
   case rel=>exact⟨i+1,_,by go_num,hlt,hM2,hT2,hb2⟩
   case measure=>simp [intOf];omega
  ·obtain rfl : m = i := by omega
   have hMe:Hid (MF V1 T1 N (Ye f (f.blocks.set b (l.map (Zg gone)))) (.slice Am np Cm) (.slice (some ⟨gd,0,none⟩) n Cd)):=hide (by
    have h9:=hM.out
    rw [hm.out,mapL_end] at h9
    exact h9)
   refine hd7 hx he hcd hk hTB hbs hbl ?_;clear hx he hcd hk hTB hbs hbl;intro hx he hcd hk hTB hbs hbl
   clear f3' fx hml
   have hRV:=(hbV1.block Nr hNrW).trans hR0.out
   obtain⟨n0,n1,n2,n3⟩:=bx4 hRV
   obtain⟨g0,g1,g2,g3⟩:=bf4 hRV
   have v0:V1.cell? ⟨N,0,none⟩=some (.string f.name):=Yb hMe.out.box 0 rfl
   have v1:=Yb hMe.out.box 1 rfl
   have v2:V1.cell? ⟨N,2,none⟩=some (.int .i64 f.ret):=Yb hMe.out.box 2 rfl
   have v3:=Yb hMe.out.box 3 rfl
   replace hRV:=hide hRV
   go_wp2
   refine bodyPost_ret (v:=f.v (.slice Am np Cm) (.slice (some ⟨gd,0,none⟩) n Cd)) (by simp [results,Tryz.results67,go_sem,n0,n1,n2,n3,g0,g1,g2,g3]) rfl ?_
   have hwV:=hwW.out.trans (hbV1.mono hws)
   have hfin:=(((hwV.setCell (p:=⟨Nr,0,none⟩) hNrw (.string f.name)).setCell (p:=⟨Nr,1,none⟩) hNrw (.slice Am np Cm)).setCell (p:=⟨Nr,2,none⟩) hNrw (.int .i64 f.ret)).setCell (p:=⟨Nr,3,none⟩) hNrw (.slice (some ⟨gd,0,none⟩) n Cd)
   have hkp:∀(u0 u1 u2 u3:Value) (k:Nat),W.heap.size≤k→((((V1.setCell ⟨Nr,0,none⟩ u0).setCell ⟨Nr,1,none⟩ u1).setCell ⟨Nr,2,none⟩ u2).setCell ⟨Nr,3,none⟩ u3).heap[k]? = V1.heap[k]? := fun u0 u1 u2 u3 k hk=>by
    have e1:k≠Nr:=by omega
    rw [Below.heap_setCell _ ⟨Nr,3,none⟩ _ _ e1,Below.heap_setCell _ ⟨Nr,2,none⟩ _ _ e1,Below.heap_setCell _ ⟨Nr,1,none⟩ _ _ e1,Below.heap_setCell _ ⟨Nr,0,none⟩ _ _ e1]
   have hgv:=hMe.out.gives hT1.out hcW.out (fun k hk=>hkp (.string f.name) (.slice Am np Cm) (.int .i64 f.ret) (.slice (some ⟨gd,0,none⟩) n Cd) k hk)
   exact⟨_,_,rfl,hgv.1.mono hws,hgv.2.mono hws,hfin⟩
def erN {α:Type} (k:Nat) (l:List α) (i:Nat):List α:=(l.take i).eraseIdx k
theorem erN_zero {α:Type} (k:Nat) (l:List α):erN k l 0 = []:=by simp [erN]
theorem erN_end {α:Type} (k:Nat) (l:List α):erN k l l.length=l.eraseIdx k:=by simp [erN]
theorem erN_next {α:Type} {k:Nat} {l:List α} {i:Nat} {x:α} (h:l[i]? = some x):erN k l (i+1)=erN k l i++if (i != k)=true then [x] else []:=by
 have h1:=(Js.1 h).1
 have h2:(l.take i).length=i:=by rw [List.length_take];omega
 unfold erN
 rw [List.take_add_one,h]
 simp only [Option.toList_some]
 rcases Nat.lt_trichotomy k i with h3|h3|h3
 ·rw [List.eraseIdx_append_of_lt_length (by omega),if_pos (by simp;omega)]
 ·subst h3
  rw [List.eraseIdx_append_of_length_le (by omega),h2,Nat.sub_self,if_neg (by simp),List.eraseIdx_zero,List.tail_cons,List.eraseIdx_of_length_le (l:=l.take k) (by omega)]
 ·rw [List.eraseIdx_of_length_le (by rw [List.length_append,h2,List.length_singleton];omega),List.eraseIdx_of_length_le (by omega),if_pos (by simp;omega)]
theorem erN_len {α:Type} (k:Nat) (l:List α) (i:Nat):(erN k l i).length≤i:=by
 have h1:(erN k l i).length≤(l.take i).length:=List.Sublist.length_le (List.eraseIdx_sublist _ _)
 have h2:(l.take i).length≤i:=by rw [List.length_take];omega
 omega
theorem erN_lens {α β:Type} {l:List α} {m:List β} (h:m.length=l.length) (k i:Nat):(erN k m i).length=(erN k l i).length:=by
 have e:(m.take i).length=(l.take i).length:=by rw [List.length_take,List.length_take,h]
 unfold erN
 rw [List.length_eraseIdx,List.length_eraseIdx,e]
theorem erN_zip {α β:Type} {l:List α} {m:List β} {k i j:Nat} {x:α} {y:β} (hx:(erN k l i)[j]? = some x) (hy:(erN k m i)[j]? = some y):∃q:Nat,l[q]? = some x∧m[q]? = some y:=by
 unfold erN at hx hy
 rw [List.getElem?_eraseIdx] at hx hy
 by_cases h:j<k
 ·rw [if_pos h] at hx hy
  have hj:j<i:=by have:=(Js.1 hx).1;rw [List.length_take] at this;omega
  rw [List.getElem?_take,if_pos hj] at hx hy
  exact⟨j,hx,hy⟩
 ·rw [if_neg h] at hx hy
  have hj:j+1<i:=by have:=(Js.1 hx).1;rw [List.length_take] at this;omega
  rw [List.getElem?_take,if_pos hj] at hx hy
  exact⟨j+1,hx,hy⟩
theorem rwo15_any (f : Fun) (z : Int) (b k : Nat) (l : List Ins) (hl : f.blocks[b]? = some l) (hk2 : k < l.length) (c1 d1 : Value) (w : World) (B : Nat) (hB : B ≤ w.heap.size) (hf : RFun.rep w B [.string f.name, c1, .int .i64 f.ret, d1] f) (hs : Zo f) :
  Calls Tryz.prog 71 #[f.v c1 d1, .agg #[.int .i64 z, .int .i64 b, .int .i64 k]] w (GivesF f (f.blocks.set b (l.eraseIdx k)) w):=by
 obtain⟨m,hm⟩:=Jn (l.length)
 have hmle:m≤2000000:=by rw [hm.out];exact(hs.code l (Jm hl)).1
 refine hd2 hl hk2 ?_;clear hl hk2;intro hl hk2
 obtain⟨-, -, -, -, -,hret,hnm⟩:=id hf
 obtain⟨hp,hb⟩:=Yk (RFun.later hf (Below.refl _ _) hB)
 obtain⟨A1,k1,h1, -, -⟩:=Rp.slice1_open hp
 obtain⟨A2,k2,h2,hm2, -⟩:=Rp.slice1_open hb
 cases h1;cases h2
 clear hp hb hm2
 obtain⟨n,hn⟩:=Jn (f.blocks.length)
 obtain⟨np,hnp⟩:∃n,Hid (n=f.params.length):=⟨_,hide rfl⟩
 have hnle:n≤2000000:=by rw [hn.out];exact hs.blocks
 rw [←hn.out,←hnp.out] at hf⊢
 obtain⟨W,hW,hwW,hWs,hx1,hxe,hx2⟩:=boxes3 w #[.string f.name, .slice A1 np k1, .int .i64 f.ret, .slice A2 n k2] #[.int .i64 z, .int .i64 b, .int .i64 k] #[.string ⟨#[]⟩, .slice none 0 0, .int .i64 0, .slice none 0 0] 32 48 32
 obtain⟨Nr,hNr⟩:=Jn (w.heap.size+1+1)
 obtain⟨Ne,hNe⟩:=Jn (w.heap.size+1)
 have hR0:W.heap[Nr]? = some (.cells #[.string ⟨#[]⟩, .slice none 0 0, .int .i64 0, .slice none 0 0] 32 (0,0)):=by
  rw [←hW,hNr.out]
  have:=Yu ((w.alloc (.cells #[.string f.name, .slice A1 np k1, .int .i64 f.ret, .slice A2 n k2] 32)).alloc (.cells #[.int .i64 z, .int .i64 b, .int .i64 k] 48)) (.cells #[.string ⟨#[]⟩, .slice none 0 0, .int .i64 0, .slice none 0 0] 32)
  simpa using this
 rw [←hNe.out] at hxe
 have hself:=Below.refl W.heap.size W
 have q0:=hx1 0 _ rfl W hself
 have q1:=hx1 1 _ rfl W hself
 have q2:=hx1 2 _ rfl W hself
 have q3:=hx1 3 _ rfl W hself
 have hNrW:Nr<W.heap.size:=(Array.getElem?_eq_some_iff.1 hR0).1
 have hNrw:w.heap.size≤Nr:=by have:=hNr.out;omega
 have hws:w.heap.size≤W.heap.size:=hwW.size
 have cC:=hide (Qp f (.slice A1 np k1) (.slice A2 n k2) W B (by omega) (RFun.later hf (hwW.mono hB) (Nat.le_refl _)) hs)
 refine hd8 hR0 hs hf hwW hWs hW hret hnm ?_;clear hR0 hs hf hwW hWs hW hret hnm;intro hR0 hs hf hwW hWs hW hret hnm
 clear hx1 hx2
 have X1:=hxe 1 _ rfl
 have X2:=hxe 2 _ rfl
 clear hxe
 go_enter Tryz.func71,Tryz.ntmps71
 go_upto_region 1 with(fail)
 rw [hW.out,←hNr.out,←hNe.out]
 go_wp2_with (fail)
 refine cC.out.mono ?_
 rintro e V ⟨c,d,L,rfl,hOI,hPL,hOK,hL0,hbV⟩
 obtain⟨Am,Cm,hcm⟩:=Yd hOI.row
 subst hcm
 obtain⟨Ad,Cd,hdm⟩:=hOK.form
 subst hdm
 rw [←hnp.out] at hOI hPL⊢
 rw [←hn.out] at hOK⊢
 obtain⟨X,hX⟩:∃X,Hid (V.alloc (.cells #[.string f.name, .slice Am np Cm, .int .i64 f.ret, .slice Ad n Cd] 32)=X):=⟨_,hide rfl⟩
 obtain⟨hM0,hWX,hXs⟩:=Yci hOI hPL hOK hL0 hbV hX.out.symm hret.out hnm.out
 obtain⟨N,hN⟩:=Jn (V.heap.size)
 have hNW:W.heap.size≤N:=by rw [hN.out];exact hbV.size
 rw [←hN.out] at hM0
 have hT0:Hid (∀k,(fun k=>L≤k∧k<N) k→W.heap.size≤k):=hide (fun k hk=>by have:=hk.1;omega)
 have hcW:Hid (∀k,(Value.slice Am np Cm).ownBlock=some k→W.heap.size≤k):=hide (fun k hk=>(Ya hOI.row hk).1)
 have hselfX:=Below.refl X.heap.size X
 refine hd4 hM0 hbV hXs hL0 ?_;clear hM0 hbV hXs hL0;intro hM0 hbV hXs hL0
 clear hOI hPL hOK q0 q1 q2 q3 cC hself
 go_upto_region 2 with(fail)
 rw [hX.out,←hN.out]
 clear hX
 have hbn:b<n:=by rw [hn.out];exact(Js.1 hl.out).1
 have hbi:(b:Int)<(n:Int):=by omega
 obtain⟨m0,hm0,hm1,hm2,hm3⟩:=Yh Ya5
 refine hd4 hm0 hm1 hm2 hm3 ?_;clear hm0 hm1 hm2 hm3;intro hm0 hm1 hm2 hm3
 obtain⟨xs,ess,hk,hTB⟩:=hM0.out.tree
 have hbs:f.blocks[b]? = some l:=hl.out
 obtain⟨x,es,hx,he,hcd⟩:=hk.row_at hbs
 obtain⟨gd,CD9,hgdf, -,hgd⟩:=hk.row.form (by rw [←hn.out];omega)
 have hAd:=(Value.slice.inj hgdf).1
 subst hAd
 clear hgdf CD9
 obtain⟨gc,Cx,hxf, -,hgcl⟩:=hcd.row.form (by have:=hk2.out;omega)
 subst hxf
 rw [←hm.out] at hx
 have hgdl:gd<X.heap.size:=(Ya hk.row rfl).2.1
 have hNl:=hM0.out.lt
 have hTgd:=hTB gd (.inl rfl)
 have hNgd:N≠gd:=fun e=>hM0.out.out (e▸hTgd)
 have hgdW:W.heap.size≤gd:=hT0.out gd hTgd
 have hgcl2:gc<X.heap.size:=(Ya hcd.row rfl).2.1
 have f3:=Yg (Yb hM0.out.box 3 rfl) hNl
 have fx:=Yg (hk.blk_cell hx) hgdl
 have p1:∀w',Below X.heap.size X w'→w'.cell? ⟨Ne,1,none⟩=some (.int .i64 b):=fun w' h9=>X1 w' (hWX.trans (h9.mono hWX.size))
 have p2:∀w',Below X.heap.size X w'→w'.cell? ⟨Ne,2,none⟩=some (.int .i64 k):=fun w' h9=>X2 w' (hWX.trans (h9.mono hWX.size))
 have hzr:=hk.row
 rw [←hn.out] at hzr
 have hzf:Hid (∀w',Below X.heap.size X w'→∀j,w'.frozen? ⟨gd,j,none⟩=false):=hide (fun w' h9 j=>Zj (Yc hzr fun k hk=>h9.block k (Ya hzr hk).2.1) j)
 have hlc:Hid (es.length=l.length):=hide hcd.len
 have hone:Hid (∀u,u∈cellsOf l es→u.oneCell'=true):=hide hcd.one_cells
 have hnil:Hid (X.ownsRow X.heap.size 44 7 (.slice none 0 0) 0 (cellsOf (erN k l 0) (erN k es 0))):=hide (by rw [erN_zero,erN_zero];exact⟨rfl, .inl ⟨rfl,rfl⟩⟩)
 have hl0:Hid (0=(erN k l 0).length):=hide (by rw [erN_zero];rfl)
 refine hd7 hx he hcd hk hTB hzr hbs ?_;clear hx he hcd hk hTB hzr hbs;intro hx he hcd hk hTB hzr hbs
 clear X1 X2
 go_wp2
 go_loopw [6,7] (fun s6 s wr=>∃(i r:Nat) (A:Option Addr) (C:Nat),s6 = .slice A r C∧s = .int .i64 i∧i≤m∧Hid (r=(erN k l i).length)∧Hid (wr.ownsRow X.heap.size 44 7 (.slice A r C) r (cellsOf (erN k l i) (erN k es i)))∧Below X.heap.size X wr) (fun _ s _=>m - (intOf s).toNat)
 case atStart=>exact⟨0,0,none,0,rfl,rfl,Nat.zero_le _,hl0,hnil,hselfX⟩
 case round =>
  clear hl0 hnil hselfX
  rename World=>V
  obtain⟨i,r,A,C,rfl,rfl,hi,hr,hrow,hbV⟩:=hrel
  have hVs:=hbV.size
  have f3V:=f3 V hbV
  have fxV:=fx V hbV
  have p1V:=p1 V hbV
  have p2V:=p2 V hbV
  by_cases hlt:i<m
  ·have hii : (i : Int) < (m : Int) := by omega
   have hrle:r≤i:=by rw [hr.out];exact erN_len _ _ _
   obtain⟨ins,hins⟩:=Yf (l:=l) (k:=i) (by rw [←hm.out];exact hlt)
   obtain⟨ca,ct,hei,hva,hvt,hok⟩:=hcd.out.ins_at hins.out
   obtain⟨Aa,Ca,hcaf⟩:=Yd hva.row
   subst hcaf
   obtain⟨At,Ct,hctf⟩:=Yd hvt.row
   subst hctf
   obtain⟨na,hna⟩:=Jn (ins.args.length)
   obtain⟨nt,hnt⟩:=Jn (ins.to.length)
   rw [←hna.out] at hei
   rw [←hnt.out] at hei
   obtain⟨e0,e1,e2,e3,e4,e5,e6⟩:=cell7 hcd.out hins.out hei
   replace e0:=Yg e0 hgcl2 V hbV
   replace e1:=Yg e1 hgcl2 V hbV
   replace e2:=Yg e2 hgcl2 V hbV
   replace e3:=Yg e3 hgcl2 V hbV
   replace e4:=Yg e4 hgcl2 V hbV
   replace e5:=Yg e5 hgcl2 V hbV
   replace e6:=Yg e6 hgcl2 V hbV
   have hnl:=hide (erN_next (k:=k) hins.out)
   have hne:=hide (erN_next (k:=k) hei)
   obtain⟨bb,hbb⟩:=Jn ((i != k))
   have q1:((i:Int) != (k:Int))=bb:=by rw [hbb.out,Bool.eq_iff_iff];simp;omega
   rw [←hbb.out] at hnl hne
   refine hd4 hei hva hvt hok ?_;clear hei hva hvt hok;intro hei hva hvt hok
   cases bb with
   | false =>
    have hnl2:Hid (erN k l (i+1)=erN k l i):=hide (by rw [hnl.out];simp)
    have hne2:Hid (erN k es (i+1)=erN k es i):=hide (by rw [hne.out];simp)
    have hr2:Hid (r=(erN k l (i+1)).length):=hide (by rw [hnl2.out];exact hr.out)
    have hrow2:Hid (V.ownsRow X.heap.size 44 7 (.slice A r C) r (cellsOf (erN k l (i+1)) (erN k es (i+1)))):=hide (by rw [hnl2.out,hne2.out];exact hrow.out)
    go_wp2
    go_roundw
    case rel=>exact⟨i+1,r,A,C,rfl,by go_num,hlt,hr2,hrow2,hbV⟩
    case measure=>simp [intOf];omega
   | true =>
    have hnl2:Hid (erN k l (i+1)=erN k l i ++ [ins]):=hide (by rw [hnl.out];simp)
    have hne2:Hid (erN k es (i+1)=erN k es i ++ [(.slice Aa na Ca, .slice At nt Ct)]):=hide (by rw [hne.out];simp)
    have hr2:Hid (r+1=(erN k l (i+1)).length):=hide (by rw [hnl2.out,List.length_append,←hr.out];rfl)
    have hce:Hid (cellsOf (erN k l (i+1)) (erN k es (i+1))=cellsOf (erN k l i) (erN k es i) ++ [.int .i64 ins.op, .int .i64 ins.reg, .int .i64 ins.ty, .int .i64 ins.num, .int .i64 ins.flags, .slice Aa na Ca, .slice At nt Ct]):=hide (by
     rw [hnl2.out,hne2.out,Yb3 (erN_lens hlc.out k i)]
     rfl)
    have hww:V.heap.size≤V.heap.size:=Nat.le_refl _
    go_wp2_with (first
     | (at_builtin
        refine wpList_append_own _ rfl (.tmp 26) (.tmp 37) _ rfl X.heap.size 44 m0 _ 7 88 Tryz.underlying39 hm0.out hm1.out hm2.out hm3.out rfl (by omega) (.slice A r C) _ _ rfl (hrow.out.alloc _) ⟨V.heap.size,0,none⟩ 1 1 [.int .i64 ins.op, .int .i64 ins.reg, .int .i64 ins.ty, .int .i64 ins.num, .int .i64 ins.flags, .slice Aa na Ca, .slice At nt Ct] rfl rfl ?c1 ?c2 ?c3 ?c4 ?c5 ?_
        case c1=>exact World.news_of_block (cs := #[.int .i64 ins.op, .int .i64 ins.reg, .int .i64 ins.ty, .int .i64 ins.num, .int .i64 ins.flags, .slice Aa na Ca, .slice At nt Ct]) (t := 44) (fr:=(0,0)) (heap_alloc_new V _)
        case c2=>simp [Value.oneCell']
        case c3=>unfold maxLen;omega
        case c4=>omega
        case c5=>first|(simp;omega)|simp|omega
        intro v9 w9 hown9 hg9 _
        have hb9:Below X.heap.size X w9:=(hbV.alloc hVs _).grown hg9 (by simp;omega) (fun k hk=>(Ya hrow.out hk).1)
        obtain⟨A8,C8,hv8⟩:=Yd hown9
        subst hv8
        have hL:Hid (w9.ownsRow X.heap.size 44 7 (.slice A8 (r+1) C8) (r+1) (cellsOf (erN k l (i+1)) (erN k es (i+1)))):=hide (by rw [hce.out];exact hown9)
        replace hown9:=hide hown9
        replace hg9:=hide hg9))
    go_roundw
    case rel=>exact⟨i+1,r+1,A8,C8,rfl,by go_num,hlt,hr2,hL,hb9⟩
    case measure=>simp [intOf];omega
  ·obtain rfl : m = i := by omega
   have hzb:=hzf.out V hbV b
   obtain⟨P,hP⟩:∃P,Hid (V.setCell ⟨gd,b,none⟩ (.slice A r C)=P):=⟨_,hide rfl⟩
   have hbP:Below W.heap.size W P:=by
    rw [←hP.out]
    exact(hWX.trans (hbV.mono hWX.size)).setCell (p:=⟨gd,b,none⟩) hgdW _
   have hPo:Hid (∀j,j≠gd→j<X.heap.size→P.heap[j]? = X.heap[j]?):=hide (fun j h8 h9=>by
    rw [←hP.out,Below.heap_setCell V ⟨gd,b,none⟩ _ j h8]
    exact hbV.block j h9)
   have hPN:Hid (P.heap[N]? = some (.cells #[.string f.name, .slice Am np Cm, .int .i64 f.ret, .slice (some ⟨gd,0,none⟩) n Cd] 32 (0,0))):=hide ((hPo.out N hNgd hNl).trans hM0.out.box)
   have hPr:Hid (P.ownsRow X.heap.size 44 7 (.slice A r C) r (cellsOf (l.eraseIdx k) (es.eraseIdx k))):=hide (by
    have h9:=hrow.out
    have e1:=erN_end k l
    have e2:=erN_end k es
    rw [hlc.out] at e2
    rw [hm.out,e1,e2] at h9
    refine Yc h9 fun j hj => ?_
    rw [←hP.out]
    have hjx:=(Ya h9 hj).1
    exact Below.heap_setCell V ⟨gd,b,none⟩ _ j (show j≠gd by omega))
   have hPd:Hid (P.ownsRow 0 41 1 (.slice (some ⟨gd,0,none⟩) n Cd) n (xs.set b (.slice A r C))):=hide (by
    have h9:=Yc hzr.out (w':=V) fun j hj=>hbV.block j (Ya hzr.out hj).2.1
    have h8:=(World.ownsRow.stored h9 b (.slice A r C)).1
    rw [hP.out] at h8
    exact h8)
   have hre:Hid (r=(l.eraseIdx k).length):=hide (by rw [hr.out,hm.out,erN_end])
   clear p1 p2 f3 fx
   go_upto_region 9 with(fail)
   rw [hP.out]
   clear hzb f3V fxV p1V p2V hP
   have hRV:=(hbP.block Nr hNrW).trans hR0.out
   obtain⟨n0,n1,n2,n3⟩:=bx4 hRV
   obtain⟨g0,g1,g2,g3⟩:=bf4 hRV
   have v0:P.cell? ⟨N,0,none⟩=some (.string f.name):=Yb hPN.out 0 rfl
   have v1:=Yb hPN.out 1 rfl
   have v2:P.cell? ⟨N,2,none⟩=some (.int .i64 f.ret):=Yb hPN.out 2 rfl
   have v3:=Yb hPN.out 3 rfl
   replace hRV:=hide hRV
   go_wp2
   refine bodyPost_ret (v:=f.v (.slice Am np Cm) (.slice (some ⟨gd,0,none⟩) n Cd)) (by simp [results,Tryz.results71,go_sem,n0,n1,n2,n3,g0,g1,g2,g3]) rfl ?_
   have hwV:=hwW.out.trans (hbP.mono hws)
   have hfin:=(((hwV.setCell (p:=⟨Nr,0,none⟩) hNrw (.string f.name)).setCell (p:=⟨Nr,1,none⟩) hNrw (.slice Am np Cm)).setCell (p:=⟨Nr,2,none⟩) hNrw (.int .i64 f.ret)).setCell (p:=⟨Nr,3,none⟩) hNrw (.slice (some ⟨gd,0,none⟩) n Cd)
   have hkp:∀(u0 u1 u2 u3:Value) (k:Nat),W.heap.size≤k→((((P.setCell ⟨Nr,0,none⟩ u0).setCell ⟨Nr,1,none⟩ u1).setCell ⟨Nr,2,none⟩ u2).setCell ⟨Nr,3,none⟩ u3).heap[k]? = P.heap[k]? := fun u0 u1 u2 u3 k hk=>by
    have e1:k≠Nr:=by omega
    rw [Below.heap_setCell _ ⟨Nr,3,none⟩ _ _ e1,Below.heap_setCell _ ⟨Nr,2,none⟩ _ _ e1,Below.heap_setCell _ ⟨Nr,1,none⟩ _ _ e1,Below.heap_setCell _ ⟨Nr,0,none⟩ _ _ e1]
   have hk2':∀(u0 u1 u2 u3:Value) (k:Nat),k≠Nr→((((P.setCell ⟨Nr,0,none⟩ u0).setCell ⟨Nr,1,none⟩ u1).setCell ⟨Nr,2,none⟩ u2).setCell ⟨Nr,3,none⟩ u3).heap[k]? = P.heap[k]? := fun u0 u1 u2 u3 k e1=>by
    rw [Below.heap_setCell _ ⟨Nr,3,none⟩ _ _ e1,Below.heap_setCell _ ⟨Nr,2,none⟩ _ _ e1,Below.heap_setCell _ ⟨Nr,1,none⟩ _ _ e1,Below.heap_setCell _ ⟨Nr,0,none⟩ _ _ e1]
   obtain⟨Q,hQ⟩:∃Q,Hid (Q=(((P.setCell ⟨Nr,0,none⟩ (.string f.name)).setCell ⟨Nr,1,none⟩ (.slice Am np Cm)).setCell ⟨Nr,2,none⟩ (.int .i64 f.ret)).setCell ⟨Nr,3,none⟩ (.slice (some ⟨gd,0,none⟩) n Cd)):=⟨_,hide rfl⟩
   have hQP:∀j,W.heap.size≤j→Q.heap[j]? = P.heap[j]? := fun j hj=>by rw [hQ.out];exact hkp _ _ _ _ j hj
   rw [←hQ.out] at hfin⊢
   have hTw:∀j,TB (.slice (some ⟨gd,0,none⟩) n Cd) xs ess j→W.heap.size≤j:=fun j hj=>hT0.out j (hTB.out j hj)
   have hXW:=hWX.size
   have hkd:=hk.out.raise hTw
   have hQX:∀j,W.heap.size≤j→j<X.heap.size→j≠gd→Q.heap[j]? = X.heap[j]? := fun j h1 h2 h3=>(hQP j h1).trans (hPo.out j h3 h2)
   have tyD:=(Ya hk.out.row rfl).2.2
   have hpar:OwnI Q W.heap.size (.slice Am np Cm) f.params:=⟨Qh (Yc hM0.out.par.row fun j h9=>hQX j (hcW.out j h9) (Ya hM0.out.par.row h9).2.1 (fun e=>(hM0.out.far j h9).1 (e▸hTgd))) hcW.out,hM0.out.par.ok⟩
   have hins9:∀ {x:Value} {l:List Ins} {es:List (Value×Value)},Z9 X W.heap.size x l es→∀(j:Nat) y e,l[j]? = some y→es[j]? = some e→OwnV Q W.heap.size e.1 y.args∧OwnI Q W.heap.size e.2 y.to∧Ybr y:=fun hc j y e hy hee=>by
    obtain⟨g1,g2,g3⟩:=hc.inn j y e hy hee
    exact⟨⟨Yc g1.row fun k hv=>hQX k (Ya g1.row hv).1 (Ya g1.row hv).2.1 (Z7 (Ya g1.row hv).2.2 tyD (by decide)),g1.ok⟩,⟨Yc g2.row fun k hv=>hQX k (Ya g2.row hv).1 (Ya g2.row hv).2.1 (Z7 (Ya g2.row hv).2.2 tyD (by decide)),g2.ok⟩,g3⟩
   have hOK:OwnK Q W.heap.size (.slice (some ⟨gd,0,none⟩) n Cd) (f.blocks.set b (l.eraseIdx k)):=by
    have hlx:=hk.out.lenx
    have hle:=hk.out.lene
    refine⟨xs.set b (.slice A r C),by simp [hlx],?_,fun j y mm hy hmm => ?_⟩
    ·rw [List.length_set, ← hn.out]
     exact Qh (Yc hPd.out fun j hj=>by cases hj;exact hQP gd hgdW) (fun j hj=>by cases hj;exact hgdW)
    ·by_cases e : j = b
     ·subst e
      rw [Jf (by rw [hlx,←hn.out];exact hbn)] at hy
      rw [Jf (by rw [←hn.out];exact hbn)] at hmm
      cases hy;cases hmm
      have hle2:(es.eraseIdx k).length=(l.eraseIdx k).length:=by rw [List.length_eraseIdx,List.length_eraseIdx,hlc.out]
      refine⟨List.zipWith (fun x e=>insC x e.1 e.2) (l.eraseIdx k) (es.eraseIdx k),by rw [List.length_zipWith,hle2,Nat.min_self],?_,fun q cs z9 hq hz => ?_⟩
      ·rw [← hre.out]
       exact Zf (Yc hPr.out fun j hj=>hQP j (by have:=(Ya hPr.out hj).1;omega)) hXW
      ·have hq2 : (es.eraseIdx k)[q]? = some ((es.eraseIdx k)[q]'(by rw [hle2]; exact (Js.1 hz).1)) := Jg _
       generalize (es.eraseIdx k)[q]'(by rw [hle2];exact(Js.1 hz).1)=ee at hq2
       rw [List.getElem?_zipWith,hz,hq2] at hq
       simp only [Option.some.injEq] at hq
       have e1:=erN_end k l
       have e2:=erN_end k es
       rw [hlc.out] at e2
       rw [←e1] at hz
       rw [←e2] at hq2
       obtain⟨q9,g1,g2⟩:=erN_zip hz hq2
       have hcr:=hkd.inn _ _ _ _ hx.out hl.out he.out
       exact⟨_,_,hq.symm,hins9 hcr q9 _ _ g1 g2⟩
     ·rw [Je (fun h => e h.symm)] at hy hmm
      have hj:ess[j]? = some (ess[j]'(by rw [hle];exact(Js.1 hmm).1)):=Jg _
      generalize ess[j]'(by rw [hle];exact(Js.1 hmm).1)=ej at hj
      have hcj:=hkd.inn j y mm _ hy hmm hj
      refine⟨List.zipWith (fun(x:Ins) (e:Value×Value)=>insC x e.1 e.2) mm ej,by rw [List.length_zipWith,hcj.len,Nat.min_self],Yc hcj.row fun k9 hk9=>hQX k9 (Ya hcj.row hk9).1 (Ya hcj.row hk9).2.1 (Z7 (Ya hcj.row hk9).2.2 tyD (by decide)),fun q cs z9 hq hz => ?_⟩
      have hq2:ej[q]? = some (ej[q]'(by rw [hcj.len];exact(Js.1 hz).1)):=Jg _
      generalize ej[q]'(by rw [hcj.len];exact(Js.1 hz).1)=ee at hq2
      rw [List.getElem?_zipWith,hz,hq2] at hq
      simp only [Option.some.injEq] at hq
      exact⟨_,_,hq.symm,hins9 hcj q _ _ hz hq2⟩
   exact⟨_,_,rfl,hpar.mono hws,hOK.mono hws,hfin⟩
theorem rended_any (f : Fun) (b q : Nat) (l : List Ins) (hl : f.blocks[b]? = some l) (hq : l.length = q + 1) (t : Int) (gj : Nat) (c1 d1 : Value) (w : World) (B : Nat) (hB : B ≤ w.heap.size) (hf : RFun.rep w B [.string f.name, c1, .int .i64 f.ret, d1] f) (hs : Zo f) (hj : OwnI w 0 (.slice (some ⟨gj, 0, none⟩) 1 1) [t]) :
  Calls Tryz.prog 65 #[f.v c1 d1, .int .i64 b, .agg #[.int .i64 31, .int .i64 (-1), .int .i64 0, .int .i64 0, .int .i64 0, .slice none 0 0, .slice (some ⟨gj,0,none⟩) 1 1]] w (GivesB (min gj w.heap.size) f (f.blocks.set b (setEnd l (brJ t))) w):=by
 obtain⟨m,hm⟩:=Jn (l.length)
 have hmle:m≤2000000:=by rw [hm.out];exact(hs.code l (Jm hl)).1
 have hmq:(m:Int) - 1=(q:Int):=by have:=hm.out;omega
 have hqm:(q:Int)<(m:Int):=by omega
 have hwq:IntKind.i64.wrap (q:Int)=(q:Int):=by rw [IntKind.wrap_i64];have:=hm.out;omega
 have hse:Hid (setEnd l (brJ t)=l.set q (brJ t)):=hide (by unfold setEnd;rw [hq];rfl)
 obtain⟨ins,hins⟩:=Yf (l:=l) (k:=q) (by omega)
 refine hd3 hl hj hq ?_;clear hl hj hq;intro hl hj hq
 obtain⟨-, -, -, -, -,hret,hnm⟩:=id hf
 obtain⟨hp,hb⟩:=Yk (RFun.later hf (Below.refl _ _) hB)
 obtain⟨A1,k1,h1, -, -⟩:=Rp.slice1_open hp
 obtain⟨A2,k2,h2,hm2, -⟩:=Rp.slice1_open hb
 cases h1;cases h2
 clear hp hb hm2
 obtain⟨n,hn⟩:=Jn (f.blocks.length)
 obtain⟨np,hnp⟩:∃n,Hid (n=f.params.length):=⟨_,hide rfl⟩
 have hnle:n≤2000000:=by rw [hn.out];exact hs.blocks
 rw [←hn.out,←hnp.out] at hf⊢
 obtain⟨W,hW,hwW,hWs,hx1,hxe,hx2⟩:=boxes3 w #[.string f.name, .slice A1 np k1, .int .i64 f.ret, .slice A2 n k2] #[.int .i64 31, .int .i64 (-1), .int .i64 0, .int .i64 0, .int .i64 0, .slice none 0 0, .slice (some ⟨gj,0,none⟩) 1 1] #[.string ⟨#[]⟩, .slice none 0 0, .int .i64 0, .slice none 0 0] 32 44 32
 obtain⟨Nr,hNr⟩:=Jn (w.heap.size+1+1)
 obtain⟨Ne,hNe⟩:=Jn (w.heap.size+1)
 have hR0:W.heap[Nr]? = some (.cells #[.string ⟨#[]⟩, .slice none 0 0, .int .i64 0, .slice none 0 0] 32 (0,0)):=by
  rw [←hW,hNr.out]
  have:=Yu ((w.alloc (.cells #[.string f.name, .slice A1 np k1, .int .i64 f.ret, .slice A2 n k2] 32)).alloc (.cells #[.int .i64 31, .int .i64 (-1), .int .i64 0, .int .i64 0, .int .i64 0, .slice none 0 0, .slice (some ⟨gj,0,none⟩) 1 1] 44)) (.cells #[.string ⟨#[]⟩, .slice none 0 0, .int .i64 0, .slice none 0 0] 32)
  simpa using this
 rw [←hNe.out] at hxe
 have hself:=Below.refl W.heap.size W
 have q0:=hx1 0 _ rfl W hself
 have q1:=hx1 1 _ rfl W hself
 have q2:=hx1 2 _ rfl W hself
 have q3:=hx1 3 _ rfl W hself
 have hNrW:Nr<W.heap.size:=(Array.getElem?_eq_some_iff.1 hR0).1
 have hNrw:w.heap.size≤Nr:=by have:=hNr.out;omega
 have hws:w.heap.size≤W.heap.size:=hwW.size
 have cC:=hide (Qp f (.slice A1 np k1) (.slice A2 n k2) W B (by omega) (RFun.later hf (hwW.mono hB) (Nat.le_refl _)) hs)
 refine hd8 hR0 hs hf hwW hWs hW hret hnm ?_;clear hR0 hs hf hwW hWs hW hret hnm;intro hR0 hs hf hwW hWs hW hret hnm
 clear hx1 hx2
 have X0:=hxe 0 _ rfl
 have X1:=hxe 1 _ rfl
 have X2:=hxe 2 _ rfl
 have X3:=hxe 3 _ rfl
 have X4:=hxe 4 _ rfl
 have X5:=hxe 5 _ rfl
 have X6:=hxe 6 _ rfl
 clear hxe
 go_enter Tryz.func65,Tryz.ntmps65
 go_upto_region 1 with(fail)
 rw [hW.out,←hNr.out,←hNe.out]
 go_wp2_with (fail)
 refine cC.out.mono ?_
 rintro e V ⟨c,d,L,rfl,hOI,hPL,hOK,hL0,hbV⟩
 obtain⟨Am,Cm,hcm⟩:=Yd hOI.row
 subst hcm
 obtain⟨Ad,Cd,hdm⟩:=hOK.form
 subst hdm
 rw [←hnp.out] at hOI hPL⊢
 rw [←hn.out] at hOK⊢
 obtain⟨X,hX⟩:∃X,Hid (V.alloc (.cells #[.string f.name, .slice Am np Cm, .int .i64 f.ret, .slice Ad n Cd] 32)=X):=⟨_,hide rfl⟩
 obtain⟨hM0,hWX,hXs⟩:=Yci hOI hPL hOK hL0 hbV hX.out.symm hret.out hnm.out
 obtain⟨N,hN⟩:=Jn (V.heap.size)
 have hNW:W.heap.size≤N:=by rw [hN.out];exact hbV.size
 rw [←hN.out] at hM0
 have hT0:Hid (∀k,(fun k=>L≤k∧k<N) k→W.heap.size≤k):=hide (fun k hk=>by have:=hk.1;omega)
 have hcW:Hid (∀k,(Value.slice Am np Cm).ownBlock=some k→W.heap.size≤k):=hide (fun k hk=>(Ya hOI.row hk).1)
 have hselfX:=Below.refl X.heap.size X
 refine hd4 hM0 hbV hXs hL0 ?_;clear hM0 hbV hXs hL0;intro hM0 hbV hXs hL0
 clear hOI hPL hOK q0 q1 q2 q3 cC hself
 go_upto_region 2 with(fail)
 rw [hX.out,←hN.out]
 clear hX
 have hbn:b<n:=by rw [hn.out];exact(Js.1 hl.out).1
 have hbi:(b:Int)<(n:Int):=by omega
 obtain⟨xs,ess,hk,hTB⟩:=hM0.out.tree
 have hbs:f.blocks[b]? = some l:=hl.out
 obtain⟨x,es,hx,he,hcd⟩:=hk.row_at hbs
 obtain⟨gd,CD9,hgdf, -,hgd⟩:=hk.row.form (by rw [←hn.out];omega)
 have hAd:=(Value.slice.inj hgdf).1
 subst hAd
 clear hgdf
 obtain⟨Ax,Cx,hxf⟩:=Yd hcd.row
 rw [←hm.out] at hxf
 subst hxf
 obtain⟨gc,CX9,hgcf, -,hgcl⟩:=hcd.row.form (by have:=hm.out;omega)
 have hAx:=(Value.slice.inj hgcf).1
 subst hAx
 clear hgcf
 have hgdl:gd<X.heap.size:=(Ya hk.row rfl).2.1
 have hNl:=hM0.out.lt
 have hgcl2:gc<X.heap.size:=(Ya hcd.row rfl).2.1
 have f3':=Yg (Yb hM0.out.box 3 rfl) hNl
 have fx:=Yg (hk.blk_cell hx) hgdl
 obtain⟨ca,ct,hei,hva,hvt,hok⟩:=hcd.ins_at hins.out
 obtain⟨z0,z1,z2,z3,z4,z5,z6⟩:=cell7 hcd hins.out hei
 have hrow7:=hide hcd.row
 have xz:∀j,X.frozen? ⟨gc,j,none⟩=false:=fun j=>Zj hrow7.out j
 have y0:=xz (q*7)
 have y1:=xz (q*7+1)
 have y2:=xz (q*7+2)
 have y3:=xz (q*7+3)
 have y4:=xz (q*7+4)
 have y5:=xz (q*7+5)
 have y6:=xz (q*7+6)
 refine hd10 hx he hei hva hvt hok hcd hk hTB hbs ?_;clear hx he hei hva hvt hok hcd hk hTB hbs;intro hx he hei hva hvt hok hcd hk hTB hbs
 clear xz
 go_upto_region 2 with(fail)
 refine Y8 (S:=fun u=>u=X.drew) (T:=fun j=>decide (j<16)) (by kernel_rfl) ?_
 have hXd:Below X.heap.size X X.drew:=hselfX.drew
 have hWd:Below W.heap.size W X.drew:=hWX.drew
 have d3:=f3' _ hXd
 have dx:=fx _ hXd
 have E0:=X0 _ hWd
 have E1:=X1 _ hWd
 have E2:=X2 _ hWd
 have E3:=X3 _ hWd
 have E4:=X4 _ hWd
 have E5:=X5 _ hWd
 have E6:=X6 _ hWd
 have z0:X.drew.cell? ⟨gc,q*7,none⟩=some (.int .i64 ins.op):=z0
 have z1:X.drew.cell? ⟨gc,q*7+1,none⟩=some (.int .i64 ins.reg):=z1
 have z2:X.drew.cell? ⟨gc,q*7+2,none⟩=some (.int .i64 ins.ty):=z2
 have z3:X.drew.cell? ⟨gc,q*7+3,none⟩=some (.int .i64 ins.num):=z3
 have z4:X.drew.cell? ⟨gc,q*7+4,none⟩=some (.int .i64 ins.flags):=z4
 have z5:X.drew.cell? ⟨gc,q*7+5,none⟩=some (ca):=z5
 have z6:X.drew.cell? ⟨gc,q*7+6,none⟩=some (ct):=z6
 have y0:X.drew.frozen? ⟨gc,q*7,none⟩=false:=y0
 have y1:X.drew.frozen? ⟨gc,q*7+1,none⟩=false:=y1
 have y2:X.drew.frozen? ⟨gc,q*7+2,none⟩=false:=y2
 have y3:X.drew.frozen? ⟨gc,q*7+3,none⟩=false:=y3
 have y4:X.drew.frozen? ⟨gc,q*7+4,none⟩=false:=y4
 have y5:X.drew.frozen? ⟨gc,q*7+5,none⟩=false:=y5
 have y6:X.drew.frozen? ⟨gc,q*7+6,none⟩=false:=y6
 obtain⟨K1,hK1⟩:∃K1,X.drew=K1:=⟨_,rfl⟩
 have hS1:Hid (Below X.heap.size X K1):=hide (hK1▸hXd)
 have hSW:Hid (Below W.heap.size W K1):=hide (hK1▸hWd)
 rw [hK1] at d3 dx E0 E1 E2 E3 E4 E5 E6 y0 y1 y2 y3 y4 y5 y6 z0 z1 z2 z3 z4 z5 z6⊢
 have hS0:Hid (K1=K1):=hide rfl
 clear hXd hWd hK1 X0 X1 X2 X3 X4 X5 X6 f3' fx
 refine Jt (i:=0) hS0.out ?_
 refine Jt (i:=1) hS0.out ?_
 refine Jt (i:=2) hS0.out ?_
 refine Jt (i:=3) hS0.out ?_
 refine Jt (i:=4) hS0.out ?_
 refine Jt (i:=5) hS0.out ?_
 refine Jt (i:=6) hS0.out ?_
 refine Jt (i:=7) hS0.out ?_
 refine Jt (i:=8) hS0.out ?_
 refine Jt (i:=9) hS0.out ?_
 refine Jt (i:=10) hS0.out ?_
 refine Jt (i:=11) hS0.out ?_
 refine Jt (i:=12) hS0.out ?_
 refine Jt (i:=13) hS0.out ?_
 refine Jt (i:=14) hS0.out ?_
 refine Jt (i:=15) hS0.out ?_
 refine Jr (i:=16) fun K hK => ?_
 go_simp
 refine Jo hK (fun h=>absurd h (by decide)) ?_;clear hK K
 refine Yv (by kernel_rfl) ?_ _
 have hTgc:=hTB.out gc (.inr (.inl ⟨_,Jm hx.out,rfl⟩))
 have hgcW:W.heap.size≤gc:=hT0.out gc hTgc
 have hNgc:N≠gc:=fun e=>hM0.out.out (e▸hTgc)
 have hgcNr:gc≠Nr:=by omega
 have hjX:Hid (OwnI K1 0 (.slice (some ⟨gj,0,none⟩) 1 1) [t]):=hide (hj.out.kept fun k _ hk=>(hwW.out.trans (hSW.out.mono hws)).block k hk)
 have hgjN:gj<w.heap.size:=(Ya hj.out.row rfl).2.1
 have hgjty:gj≠gc:=by omega
 obtain⟨P,hP⟩:∃P,Hid ((((((((K1.setCell ⟨gc,q*7,none⟩ (.int .i64 31)).setCell ⟨gc,q*7+1,none⟩ (.int .i64 (-1))).setCell ⟨gc,q*7+2,none⟩ (.int .i64 0)).setCell ⟨gc,q*7+3,none⟩ (.int .i64 0)).setCell ⟨gc,q*7+4,none⟩ (.int .i64 0)).setCell ⟨gc,q*7+5,none⟩ (.slice none 0 0)).setCell ⟨gc,q*7+6,none⟩ (.slice (some ⟨gj,0,none⟩) 1 1))=P):=⟨_,hide rfl⟩
 rw [hP.out]
 have hPg:Hid (P.heap[gc]? = (Ybc K1 gc (q*7) (brJ t) (.slice none 0 0) (.slice (some ⟨gj,0,none⟩) 1 1)).heap[gc]?):=hide (by rw [←hP.out];rfl)
 have hPo:Hid (∀k,k≠gc→P.heap[k]? = K1.heap[k]?):=hide (fun k hk=>by rw [←hP.out];exact Yca K1 gc (q*7) (brJ t) (.slice none 0 0) (.slice (some ⟨gj,0,none⟩) 1 1) k hk)
 have hbP:Below W.heap.size W P:=by
  rw [←hP.out]
  exact(((((((hSW.out.setCell (p:=⟨gc,q*7,none⟩) hgcW _).setCell (p:=⟨gc,q*7+1,none⟩) hgcW _).setCell (p:=⟨gc,q*7+2,none⟩) hgcW _).setCell (p:=⟨gc,q*7+3,none⟩) hgcW _).setCell (p:=⟨gc,q*7+4,none⟩) hgcW _).setCell (p:=⟨gc,q*7+5,none⟩) hgcW _).setCell (p:=⟨gc,q*7+6,none⟩) hgcW _)
 have hPN:Hid (P.heap[N]? = some (.cells #[.string f.name, .slice Am np Cm, .int .i64 f.ret, .slice (some ⟨gd,0,none⟩) n Cd] 32 (0,0))):=hide ((hPo.out N hNgc).trans ((hS1.out.block N hNl).trans hM0.out.box))
 clear hP d3 dx E0 E1 E2 E3 E4 E5 E6 y0 y1 y2 y3 y4 y5 y6 z0 z1 z2 z3 z4 z5 z6 hgjty
 have hRV:=(hbP.block Nr hNrW).trans hR0.out
 obtain⟨n0,n1,n2,n3⟩:=bx4 hRV
 obtain⟨g0,g1,g2,g3⟩:=bf4 hRV
 have v0:P.cell? ⟨N,0,none⟩=some (.string f.name):=Yb hPN.out 0 rfl
 have v1:=Yb hPN.out 1 rfl
 have v2:P.cell? ⟨N,2,none⟩=some (.int .i64 f.ret):=Yb hPN.out 2 rfl
 have v3:=Yb hPN.out 3 rfl
 replace hRV:=hide hRV
 go_wp2
 refine bodyPost_ret (v:=f.v (.slice Am np Cm) (.slice (some ⟨gd,0,none⟩) n Cd)) (by simp [results,Tryz.results65,go_sem,n0,n1,n2,n3,g0,g1,g2,g3]) rfl ?_
 have hwV:=hwW.out.trans (hbP.mono hws)
 have hfin:=(((hwV.setCell (p:=⟨Nr,0,none⟩) hNrw (.string f.name)).setCell (p:=⟨Nr,1,none⟩) hNrw (.slice Am np Cm)).setCell (p:=⟨Nr,2,none⟩) hNrw (.int .i64 f.ret)).setCell (p:=⟨Nr,3,none⟩) hNrw (.slice (some ⟨gd,0,none⟩) n Cd)
 have hkp:∀(u0 u1 u2 u3:Value) (k:Nat),W.heap.size≤k→((((P.setCell ⟨Nr,0,none⟩ u0).setCell ⟨Nr,1,none⟩ u1).setCell ⟨Nr,2,none⟩ u2).setCell ⟨Nr,3,none⟩ u3).heap[k]? = P.heap[k]? := fun u0 u1 u2 u3 k hk=>by
  have e1:k≠Nr:=by omega
  rw [Below.heap_setCell _ ⟨Nr,3,none⟩ _ _ e1,Below.heap_setCell _ ⟨Nr,2,none⟩ _ _ e1,Below.heap_setCell _ ⟨Nr,1,none⟩ _ _ e1,Below.heap_setCell _ ⟨Nr,0,none⟩ _ _ e1]
 have hk2:∀(u0 u1 u2 u3:Value) (k:Nat),k≠Nr→((((P.setCell ⟨Nr,0,none⟩ u0).setCell ⟨Nr,1,none⟩ u1).setCell ⟨Nr,2,none⟩ u2).setCell ⟨Nr,3,none⟩ u3).heap[k]? = P.heap[k]? := fun u0 u1 u2 u3 k e1=>by
  rw [Below.heap_setCell _ ⟨Nr,3,none⟩ _ _ e1,Below.heap_setCell _ ⟨Nr,2,none⟩ _ _ e1,Below.heap_setCell _ ⟨Nr,1,none⟩ _ _ e1,Below.heap_setCell _ ⟨Nr,0,none⟩ _ _ e1]
 have hkK:Yq K1 0 (.slice (some ⟨gd,0,none⟩) n Cd) f.blocks xs ess:=hk.out.kept fun k _ h9=>hS1.out.block k h9
 have hOK:=hkK.write (w':=(((P.setCell ⟨Nr,0,none⟩ (.string f.name)).setCell ⟨Nr,1,none⟩ (.slice Am np Cm)).setCell ⟨Nr,2,none⟩ (.int .i64 f.ret)).setCell ⟨Nr,3,none⟩ (.slice (some ⟨gd,0,none⟩) n Cd)) hbs.out hx.out he.out hins.out hei.out (x:=brJ t) (c' := .slice none 0 0) (t' := .slice (some ⟨gj,0,none⟩) 1 1) OwnV.nil_ hjX.out ⟨(by decide:I64 31),(by decide:I64 (-1)),(by decide:I64 0),(by decide:I64 0),(by decide:I64 0)⟩ ((hk2 _ _ _ _ gc hgcNr).trans hPg.out) (fun k h9 h8=>by
  have hkNr:k≠Nr:=by
   rcases h8 with h8|h8|h8
   ·have:=hT0.out k (hTB.out k h8);omega
   ·cases h8
   ·have:=(Ya hj.out.row h8).2.1;omega
  exact(hk2 _ _ _ _ k hkNr).trans (hPo.out k h9)) (b0:=min gj w.heap.size) (fun k h8=>by
  rcases h8 with h8|h8|h8
  ·have:=hT0.out k (hTB.out k h8);omega
  ·cases h8
  ·have e9 : gj = k := by simpa [Value.ownBlock] using h8
   omega)
 have hpar:OwnI ((((P.setCell ⟨Nr,0,none⟩ (.string f.name)).setCell ⟨Nr,1,none⟩ (.slice Am np Cm)).setCell ⟨Nr,2,none⟩ (.int .i64 f.ret)).setCell ⟨Nr,3,none⟩ (.slice (some ⟨gd,0,none⟩) n Cd)) (min gj w.heap.size) (.slice Am np Cm) f.params:=⟨Qh (Yc hM0.out.par.row fun k h9=>by
  have h7:=hcW.out k h9
  have h6:=hM0.out.far k h9
  rw [hk2 _ _ _ _ k (by omega),hPo.out k (fun e=>h6.1 (e▸hTgc)),hS1.out.block k (Ya hM0.out.par.row h9).2.1]) (fun k h9=>by have:=hcW.out k h9;omega),hM0.out.par.ok⟩
 refine⟨_,_,rfl,hpar,?_,hfin⟩
 rw [hse.out]
 exact hOK
end Go.Proofs.YtamjcafjdioidaaGreat
