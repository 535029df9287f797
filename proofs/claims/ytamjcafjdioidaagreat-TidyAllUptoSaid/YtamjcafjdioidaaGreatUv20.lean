/- Texts of the chain, without what is not wanted: RfK, RfH, RfI. No condition but sizes. -/
import Derived.Test.YtamjcafjdioidaaGreatUv19
set_option linter.unusedVariables false
set_option linter.unusedSimpArgs false
set_option maxRecDepth 100000
set_option maxHeartbeats 12800000
namespace Go.Proofs.YtamjcafjdioidaaGreat
open Go.RowKit
def erN {α:Type} (k:Nat) (l:List α) (i:Nat):List α:=(l.take i).eraseIdx k
theorem erN_zero {α:Type} (k:Nat) (l:List α):erN k l 0 = []:=by simp [erN]
theorem erN_end {α:Type} (k:Nat) (l:List α):erN k l l.length=l.eraseIdx k:=by simp [erN]
theorem erN_next {α:Type} {k:Nat} {l:List α} {i:Nat} {x:α} (h:l[i]? = some x):erN k l (i+1)=erN k l i++if (i != k)=true then [x] else []:=by
 have h1:=(Js.1 h).1
 have h2:(l.take i).length=i:=by rw [List.length_take];omega
 unfold erN
 rw [List.take_add_one,h]
 simp only [Option.toList_some]
 rcases Nat.lt_trichotomy k i with h3|h3|h3
 ·rw [List.eraseIdx_append_of_lt_length (by omega),if_pos (by simp;omega)]
 ·subst h3
  rw [List.eraseIdx_append_of_length_le (by omega),h2,Nat.sub_self,if_neg (by simp),List.eraseIdx_zero,List.tail_cons,List.eraseIdx_of_length_le (l:=l.take k) (by omega)]
 ·rw [List.eraseIdx_of_length_le (by rw [List.length_append,h2,List.length_singleton];omega),List.eraseIdx_of_length_le (by omega),if_pos (by simp;omega)]
theorem erN_len {α:Type} (k:Nat) (l:List α) (i:Nat):(erN k l i).length≤i:=by
 have h1:(erN k l i).length≤(l.take i).length:=List.Sublist.length_le (List.eraseIdx_sublist _ _)
 have h2:(l.take i).length≤i:=by rw [List.length_take];omega
 omega
theorem erN_lens {α β:Type} {l:List α} {m:List β} (h:m.length=l.length) (k i:Nat):(erN k m i).length=(erN k l i).length:=by
 have e:(m.take i).length=(l.take i).length:=by rw [List.length_take,List.length_take,h]
 unfold erN
 rw [List.length_eraseIdx,List.length_eraseIdx,e]
theorem erN_zip {α β:Type} {l:List α} {m:List β} {k i j:Nat} {x:α} {y:β} (hx:(erN k l i)[j]? = some x) (hy:(erN k m i)[j]? = some y):∃q:Nat,l[q]? = some x∧m[q]? = some y:=by
 unfold erN at hx hy
 rw [List.getElem?_eraseIdx] at hx hy
 by_cases h:j<k
 ·rw [if_pos h] at hx hy
  have hj:j<i:=by have:=(Js.1 hx).1;rw [List.length_take] at this;omega
  rw [List.getElem?_take,if_pos hj] at hx hy
  exact⟨j,hx,hy⟩
 ·rw [if_neg h] at hx hy
  have hj:j+1<i:=by have:=(Js.1 hx).1;rw [List.length_take] at this;omega
  rw [List.getElem?_take,if_pos hj] at hx hy
  exact⟨j+1,hx,hy⟩
theorem rwo15_any (f : Fun) (z : Int) (b k : Nat) (l : List Ins) (hl : f.blocks[b]? = some l) (hk2 : k < l.length) (c1 d1 : Value) (w : World) (B : Nat) (hB : B ≤ w.heap.size) (hf : RFun.rep w B [.string f.name, c1, .int .i64 f.ret, d1] f) (hs : Zs f) :
  Calls Tryz.prog 71 #[f.v c1 d1, .agg #[.int .i64 z, .int .i64 b, .int .i64 k]] w (GivesF f (f.blocks.set b (l.eraseIdx k)) w):=by
 obtain⟨m,hm⟩:=Jn (l.length)
 have hmle:m≤2000000:=by rw [hm.out];exact(hs.code l (Jm hl)).1
 refine hd2 hl hk2 ?_;clear hl hk2;intro hl hk2
 obtain⟨-, -, -, -, -,hret,hnm⟩:=id hf
 obtain⟨hp,hb⟩:=Yk (RFun.later hf (Below.refl _ _) hB)
 obtain⟨A1,k1,h1, -, -⟩:=Rp.slice1_open hp
 obtain⟨A2,k2,h2,hm2, -⟩:=Rp.slice1_open hb
 cases h1;cases h2
 clear hp hb hm2
 obtain⟨n,hn⟩:=Jn (f.blocks.length)
 obtain⟨np,hnp⟩:∃n,Hid (n=f.params.length):=⟨_,hide rfl⟩
 have hnle:n≤2000000:=by rw [hn.out];exact hs.blocks
 rw [←hn.out,←hnp.out] at hf⊢
 obtain⟨W,hW,hwW,hWs,hx1,hxe,hx2⟩:=boxes3 w #[.string f.name, .slice A1 np k1, .int .i64 f.ret, .slice A2 n k2] #[.int .i64 z, .int .i64 b, .int .i64 k] #[.string ⟨#[]⟩, .slice none 0 0, .int .i64 0, .slice none 0 0] 32 48 32
 obtain⟨Nr,hNr⟩:=Jn (w.heap.size+1+1)
 obtain⟨Ne,hNe⟩:=Jn (w.heap.size+1)
 have hR0:W.heap[Nr]? = some (.cells #[.string ⟨#[]⟩, .slice none 0 0, .int .i64 0, .slice none 0 0] 32 (0,0)):=by
  rw [←hW,hNr.out]
  have:=Yt ((w.alloc (.cells #[.string f.name, .slice A1 np k1, .int .i64 f.ret, .slice A2 n k2] 32)).alloc (.cells #[.int .i64 z, .int .i64 b, .int .i64 k] 48)) (.cells #[.string ⟨#[]⟩, .slice none 0 0, .int .i64 0, .slice none 0 0] 32)
  simpa using this
 rw [←hNe.out] at hxe
 have hself:=Below.refl W.heap.size W
 have q0:=hx1 0 _ rfl W hself
 have q1:=hx1 1 _ rfl W hself
 have q2:=hx1 2 _ rfl W hself
 have q3:=hx1 3 _ rfl W hself
 have hNrW:Nr<W.heap.size:=(Array.getElem?_eq_some_iff.1 hR0).1
 have hNrw:w.heap.size≤Nr:=by have:=hNr.out;omega
 have hws:w.heap.size≤W.heap.size:=hwW.size
 have cC:=hide (Qn f (.slice A1 np k1) (.slice A2 n k2) W B (by omega) (RFun.later hf (hwW.mono hB) (Nat.le_refl _)) hs)
 refine hd8 hR0 hs hf hwW hWs hW hret hnm ?_;clear hR0 hs hf hwW hWs hW hret hnm;intro hR0 hs hf hwW hWs hW hret hnm
 clear hx1 hx2
 have X1:=hxe 1 _ rfl
 have X2:=hxe 2 _ rfl
 clear hxe
 go_enter Tryz.func71,Tryz.ntmps71
 go_upto_region 1 with(fail)
 rw [hW.out,←hNr.out,←hNe.out]
 go_wp2_with (fail)
 refine cC.out.mono ?_
 rintro e V ⟨c,d,L,rfl,hOI,hPL,hOK,hL0,hbV⟩
 obtain⟨Am,Cm,hcm⟩:=Yd hOI.row
 subst hcm
 obtain⟨Ad,Cd,hdm⟩:=hOK.form
 subst hdm
 rw [←hnp.out] at hOI hPL⊢
 rw [←hn.out] at hOK⊢
 obtain⟨X,hX⟩:∃X,Hid (V.alloc (.cells #[.string f.name, .slice Am np Cm, .int .i64 f.ret, .slice Ad n Cd] 32)=X):=⟨_,hide rfl⟩
 obtain⟨hM0,hWX,hXs⟩:=Ybe hOI hPL hOK hL0 hbV hX.out.symm hret.out hnm.out
 obtain⟨N,hN⟩:=Jn (V.heap.size)
 have hNW:W.heap.size≤N:=by rw [hN.out];exact hbV.size
 rw [←hN.out] at hM0
 have hT0:Hid (∀k,(fun k=>L≤k∧k<N) k→W.heap.size≤k):=hide (fun k hk=>by have:=hk.1;omega)
 have hcW:Hid (∀k,(Value.slice Am np Cm).ownBlock=some k→W.heap.size≤k):=hide (fun k hk=>(Ya hOI.row hk).1)
 have hselfX:=Below.refl X.heap.size X
 refine hd4 hM0 hbV hXs hL0 ?_;clear hM0 hbV hXs hL0;intro hM0 hbV hXs hL0
 clear hOI hPL hOK q0 q1 q2 q3 cC hself
 go_upto_region 2 with(fail)
 rw [hX.out,←hN.out]
 clear hX
 have hbn:b<n:=by rw [hn.out];exact(Js.1 hl.out).1
 have hbi:(b:Int)<(n:Int):=by omega
 obtain⟨m0,hm0,hm1,hm2,hm3⟩:=Yh Ya0
 refine hd4 hm0 hm1 hm2 hm3 ?_;clear hm0 hm1 hm2 hm3;intro hm0 hm1 hm2 hm3
 obtain⟨xs,ess,hk,hTB⟩:=hM0.out.tree
 have hbs:f.blocks[b]? = some l:=hl.out
 obtain⟨x,es,hx,he,hcd⟩:=hk.row_at hbs
 obtain⟨gd,CD9,hgdf, -,hgd⟩:=hk.row.form (by rw [←hn.out];omega)
 have hAd:=(Value.slice.inj hgdf).1
 subst hAd
 clear hgdf CD9
 obtain⟨gc,Cx,hxf, -,hgcl⟩:=hcd.row.form (by have:=hk2.out;omega)
 subst hxf
 rw [←hm.out] at hx
 have hgdl:gd<X.heap.size:=(Ya hk.row rfl).2.1
 have hNl:=hM0.out.lt
 have hTgd:=hTB gd (.inl rfl)
 have hNgd:N≠gd:=fun e=>hM0.out.out (e▸hTgd)
 have hgdW:W.heap.size≤gd:=hT0.out gd hTgd
 have hgcl2:gc<X.heap.size:=(Ya hcd.row rfl).2.1
 have f3:=Yg (Yb hM0.out.box 3 rfl) hNl
 have fx:=Yg (hk.blk_cell hx) hgdl
 have p1:∀w',Below X.heap.size X w'→w'.cell? ⟨Ne,1,none⟩=some (.int .i64 b):=fun w' h9=>X1 w' (hWX.trans (h9.mono hWX.size))
 have p2:∀w',Below X.heap.size X w'→w'.cell? ⟨Ne,2,none⟩=some (.int .i64 k):=fun w' h9=>X2 w' (hWX.trans (h9.mono hWX.size))
 have hzr:=hk.row
 rw [←hn.out] at hzr
 have hzf:Hid (∀w',Below X.heap.size X w'→∀j,w'.frozen? ⟨gd,j,none⟩=false):=hide (fun w' h9 j=>Zh (Yc hzr fun k hk=>h9.block k (Ya hzr hk).2.1) j)
 have hlc:Hid (es.length=l.length):=hide hcd.len
 have hone:Hid (∀u,u∈cellsOf l es→u.oneCell'=true):=hide hcd.one_cells
 have hnil:Hid (X.ownsRow X.heap.size 44 7 (.slice none 0 0) 0 (cellsOf (erN k l 0) (erN k es 0))):=hide (by rw [erN_zero,erN_zero];exact⟨rfl, .inl ⟨rfl,rfl⟩⟩)
 have hl0:Hid (0=(erN k l 0).length):=hide (by rw [erN_zero];rfl)
 refine hd7 hx he hcd hk hTB hzr hbs ?_;clear hx he hcd hk hTB hzr hbs;intro hx he hcd hk hTB hzr hbs
 clear X1 X2
 go_wp2
 go_loopw [6,7] (fun s6 s wr=>∃(i r:Nat) (A:Option Addr) (C:Nat),s6 = .slice A r C∧s = .int .i64 i∧i≤m∧Hid (r=(erN k l i).length)∧Hid (wr.ownsRow X.heap.size 44 7 (.slice A r C) r (cellsOf (erN k l i) (erN k es i)))∧Below X.heap.size X wr) (fun _ s _=>m - (intOf s).toNat)
 case atStart=>exact⟨0,0,none,0,rfl,rfl,Nat.zero_le _,hl0,hnil,hselfX⟩
 case round =>
  clear hl0 hnil hselfX
  rename World=>V
  obtain⟨i,r,A,C,rfl,rfl,hi,hr,hrow,hbV⟩:=hrel
  have hVs:=hbV.size
  have f3V:=f3 V hbV
  have fxV:=fx V hbV
  have p1V:=p1 V hbV
  have p2V:=p2 V hbV
  by_cases hlt:i<m
  ·have hii : (i : Int) < (m : Int) := by omega
   have hrle:r≤i:=by rw [hr.out];exact erN_len _ _ _
   obtain⟨ins,hins⟩:=Yf (l:=l) (k:=i) (by rw [←hm.out];exact hlt)
   obtain⟨ca,ct,hei,hva,hvt,hok⟩:=hcd.out.ins_at hins.out
   obtain⟨Aa,Ca,hcaf⟩:=Yd hva.row
   subst hcaf
   obtain⟨At,Ct,hctf⟩:=Yd hvt.row
   subst hctf
   obtain⟨na,hna⟩:=Jn (ins.args.length)
   obtain⟨nt,hnt⟩:=Jn (ins.to.length)
   rw [←hna.out] at hei
   rw [←hnt.out] at hei
   obtain⟨e0,e1,e2,e3,e4,e5,e6⟩:=cell7 hcd.out hins.out hei
   replace e0:=Yg e0 hgcl2 V hbV
   replace e1:=Yg e1 hgcl2 V hbV
   replace e2:=Yg e2 hgcl2 V hbV
   replace e3:=Yg e3 hgcl2 V hbV
   replace e4:=Yg e4 hgcl2 V hbV
   replace e5:=Yg e5 hgcl2 V hbV
   replace e6:=Yg e6 hgcl2 V hbV
   have hnl:=hide (erN_next (k:=k) hins.out)
   have hne:=hide (erN_next (k:=k) hei)
   obtain⟨bb,hbb⟩:=Jn ((i != k))
   have q1:((i:Int) != (k:Int))=bb:=by rw [hbb.out,Bool.eq_iff_iff];simp;omega
   rw [←hbb.out] at hnl hne
   refine hd4 hei hva hvt hok ?_;clear hei hva hvt hok;intro hei hva hvt hok
   cases bb with
   | false =>
    have hnl2:Hid (erN k l (i+1)=erN k l i):=hide (by rw [hnl.out];simp)
    have hne2:Hid (erN k es (i+1)=erN k es i):=hide (by rw [hne.out];simp)
    have hr2:Hid (r=(erN k l (i+1)).length):=hide (by rw [hnl2.out];exact hr.out)
    have hrow2:Hid (V.ownsRow X.heap.size 44 7 (.slice A r C) r (cellsOf (erN k l (i+1)) (erN k es (i+1)))):=hide (by rw [hnl2.out,hne2.out];exact hrow.out)
    go_wp2
    go_roundw
    case rel=>exact⟨i+1,r,A,C,rfl,by go_num,hlt,hr2,hrow2,hbV⟩
    case measure=>simp [intOf];omega
   | true =>
    have hnl2:Hid (erN k l (i+1)=erN k l i ++ [ins]):=hide (by rw [hnl.out];simp)
    have hne2:Hid (erN k es (i+1)=erN k es i ++ [(.slice Aa na Ca, .slice At nt Ct)]):=hide (by rw [hne.out];simp)
    have hr2:Hid (r+1=(erN k l (i+1)).length):=hide (by rw [hnl2.out,List.length_append,←hr.out];rfl)
    have hce:Hid (cellsOf (erN k l (i+1)) (erN k es (i+1))=cellsOf (erN k l i) (erN k es i) ++ [.int .i64 ins.op, .int .i64 ins.reg, .int .i64 ins.ty, .int .i64 ins.num, .int .i64 ins.flags, .slice Aa na Ca, .slice At nt Ct]):=hide (by
     rw [hnl2.out,hne2.out,Yb0 (erN_lens hlc.out k i)]
     rfl)
    have hww:V.heap.size≤V.heap.size:=Nat.le_refl _
    go_wp2_with (first
     | (at_builtin
        refine wpList_append_own _ rfl (.tmp 26) (.tmp 37) _ rfl X.heap.size 44 m0 _ 7 88 Tryz.underlying39 hm0.out hm1.out hm2.out hm3.out rfl (by omega) (.slice A r C) _ _ rfl (hrow.out.alloc _) ⟨V.heap.size,0,none⟩ 1 1 [.int .i64 ins.op, .int .i64 ins.reg, .int .i64 ins.ty, .int .i64 ins.num, .int .i64 ins.flags, .slice Aa na Ca, .slice At nt Ct] rfl rfl ?c1 ?c2 ?c3 ?c4 ?c5 ?_
        case c1=>exact World.news_of_block (cs := #[.int .i64 ins.op, .int .i64 ins.reg, .int .i64 ins.ty, .int .i64 ins.num, .int .i64 ins.flags, .slice Aa na Ca, .slice At nt Ct]) (t := 44) (fr:=(0,0)) (heap_alloc_new V _)
        case c2=>simp [Value.oneCell']
        case c3=>unfold maxLen;omega
        case c4=>omega
        case c5=>first|(simp;omega)|simp|omega
        intro v9 w9 hown9 hg9 _
        have hb9:Below X.heap.size X w9:=(hbV.alloc hVs _).grown hg9 (by simp;omega) (fun k hk=>(Ya hrow.out hk).1)
        obtain⟨A8,C8,hv8⟩:=Yd hown9
        subst hv8
        have hL:Hid (w9.ownsRow X.heap.size 44 7 (.slice A8 (r+1) C8) (r+1) (cellsOf (erN k l (i+1)) (erN k es (i+1)))):=hide (by rw [hce.out];exact hown9)
        replace hown9:=hide hown9
        replace hg9:=hide hg9))
    go_roundw
    case rel=>exact⟨i+1,r+1,A8,C8,rfl,by go_num,hlt,hr2,hL,hb9⟩
    case measure=>simp [intOf];omega
  ·obtain rfl : m = i := by omega
   have hzb:=hzf.out V hbV b
   obtain⟨P,hP⟩:∃P,Hid (V.setCell ⟨gd,b,none⟩ (.slice A r C)=P):=⟨_,hide rfl⟩
   have hbP:Below W.heap.size W P:=by
    rw [←hP.out]
    exact(hWX.trans (hbV.mono hWX.size)).setCell (p:=⟨gd,b,none⟩) hgdW _
   have hPo:Hid (∀j,j≠gd→j<X.heap.size→P.heap[j]? = X.heap[j]?):=hide (fun j h8 h9=>by
    rw [←hP.out,Below.heap_setCell V ⟨gd,b,none⟩ _ j h8]
    exact hbV.block j h9)
   have hPN:Hid (P.heap[N]? = some (.cells #[.string f.name, .slice Am np Cm, .int .i64 f.ret, .slice (some ⟨gd,0,none⟩) n Cd] 32 (0,0))):=hide ((hPo.out N hNgd hNl).trans hM0.out.box)
   have hPr:Hid (P.ownsRow X.heap.size 44 7 (.slice A r C) r (cellsOf (l.eraseIdx k) (es.eraseIdx k))):=hide (by
    have h9:=hrow.out
    have e1:=erN_end k l
    have e2:=erN_end k es
    rw [hlc.out] at e2
    rw [hm.out,e1,e2] at h9
    refine Yc h9 fun j hj => ?_
    rw [←hP.out]
    have hjx:=(Ya h9 hj).1
    exact Below.heap_setCell V ⟨gd,b,none⟩ _ j (show j≠gd by omega))
   have hPd:Hid (P.ownsRow 0 41 1 (.slice (some ⟨gd,0,none⟩) n Cd) n (xs.set b (.slice A r C))):=hide (by
    have h9:=Yc hzr.out (w':=V) fun j hj=>hbV.block j (Ya hzr.out hj).2.1
    have h8:=(World.ownsRow.stored h9 b (.slice A r C)).1
    rw [hP.out] at h8
    exact h8)
   have hre:Hid (r=(l.eraseIdx k).length):=hide (by rw [hr.out,hm.out,erN_end])
   clear p1 p2 f3 fx
   go_upto_region 9 with(fail)
   rw [hP.out]
   clear hzb f3V fxV p1V p2V hP
   have hRV:=(hbP.block Nr hNrW).trans hR0.out
   obtain⟨n0,n1,n2,n3⟩:=bx4 hRV
   obtain⟨g0,g1,g2,g3⟩:=bf4 hRV
   have v0:P.cell? ⟨N,0,none⟩=some (.string f.name):=Yb hPN.out 0 rfl
   have v1:=Yb hPN.out 1 rfl
   have v2:P.cell? ⟨N,2,none⟩=some (.int .i64 f.ret):=Yb hPN.out 2 rfl
   have v3:=Yb hPN.out 3 rfl
   replace hRV:=hide hRV
   go_wp2
   refine bodyPost_ret (v:=f.v (.slice Am np Cm) (.slice (some ⟨gd,0,none⟩) n Cd)) (by simp [results,Tryz.results71,go_sem,n0,n1,n2,n3,g0,g1,g2,g3]) rfl ?_
   have hwV:=hwW.out.trans (hbP.mono hws)
   have hfin:=(((hwV.setCell (p:=⟨Nr,0,none⟩) hNrw (.string f.name)).setCell (p:=⟨Nr,1,none⟩) hNrw (.slice Am np Cm)).setCell (p:=⟨Nr,2,none⟩) hNrw (.int .i64 f.ret)).setCell (p:=⟨Nr,3,none⟩) hNrw (.slice (some ⟨gd,0,none⟩) n Cd)
   have hkp:∀(u0 u1 u2 u3:Value) (k:Nat),W.heap.size≤k→((((P.setCell ⟨Nr,0,none⟩ u0).setCell ⟨Nr,1,none⟩ u1).setCell ⟨Nr,2,none⟩ u2).setCell ⟨Nr,3,none⟩ u3).heap[k]? = P.heap[k]? := fun u0 u1 u2 u3 k hk=>by
    have e1:k≠Nr:=by omega
    rw [Below.heap_setCell _ ⟨Nr,3,none⟩ _ _ e1,Below.heap_setCell _ ⟨Nr,2,none⟩ _ _ e1,Below.heap_setCell _ ⟨Nr,1,none⟩ _ _ e1,Below.heap_setCell _ ⟨Nr,0,none⟩ _ _ e1]
   have hk2':∀(u0 u1 u2 u3:Value) (k:Nat),k≠Nr→((((P.setCell ⟨Nr,0,none⟩ u0).setCell ⟨Nr,1,none⟩ u1).setCell ⟨Nr,2,none⟩ u2).setCell ⟨Nr,3,none⟩ u3).heap[k]? = P.heap[k]? := fun u0 u1 u2 u3 k e1=>by
    rw [Below.heap_setCell _ ⟨Nr,3,none⟩ _ _ e1,Below.heap_setCell _ ⟨Nr,2,none⟩ _ _ e1,Below.heap_setCell _ ⟨Nr,1,none⟩ _ _ e1,Below.heap_setCell _ ⟨Nr,0,none⟩ _ _ e1]
   obtain⟨Q,hQ⟩:∃Q,Hid (Q=(((P.setCell ⟨Nr,0,none⟩ (.string f.name)).setCell ⟨Nr,1,none⟩ (.slice Am np Cm)).setCell ⟨Nr,2,none⟩ (.int .i64 f.ret)).setCell ⟨Nr,3,none⟩ (.slice (some ⟨gd,0,none⟩) n Cd)):=⟨_,hide rfl⟩
   have hQP:∀j,W.heap.size≤j→Q.heap[j]? = P.heap[j]? := fun j hj=>by rw [hQ.out];exact hkp _ _ _ _ j hj
   rw [←hQ.out] at hfin⊢
   have hTw:∀j,TB (.slice (some ⟨gd,0,none⟩) n Cd) xs ess j→W.heap.size≤j:=fun j hj=>hT0.out j (hTB.out j hj)
   have hXW:=hWX.size
   have hkd:=hk.out.raise hTw
   have hQX:∀j,W.heap.size≤j→j<X.heap.size→j≠gd→Q.heap[j]? = X.heap[j]? := fun j h1 h2 h3=>(hQP j h1).trans (hPo.out j h3 h2)
   have tyD:=(Ya hk.out.row rfl).2.2
   have hpar:OwnI Q W.heap.size (.slice Am np Cm) f.params:=⟨Qg (Yc hM0.out.par.row fun j h9=>hQX j (hcW.out j h9) (Ya hM0.out.par.row h9).2.1 (fun e=>(hM0.out.far j h9).1 (e▸hTgd))) hcW.out,hM0.out.par.ok⟩
   have hins9:∀ {x:Value} {l:List Ins} {es:List (Value×Value)},Z7 X W.heap.size x l es→∀(j:Nat) y e,l[j]? = some y→es[j]? = some e→OwnV Q W.heap.size e.1 y.args∧OwnI Q W.heap.size e.2 y.to∧Ybo y:=fun hc j y e hy hee=>by
    obtain⟨g1,g2,g3⟩:=hc.inn j y e hy hee
    exact⟨⟨Yc g1.row fun k hv=>hQX k (Ya g1.row hv).1 (Ya g1.row hv).2.1 (Z6 (Ya g1.row hv).2.2 tyD (by decide)),g1.ok⟩,⟨Yc g2.row fun k hv=>hQX k (Ya g2.row hv).1 (Ya g2.row hv).2.1 (Z6 (Ya g2.row hv).2.2 tyD (by decide)),g2.ok⟩,g3⟩
   have hOK:OwnK Q W.heap.size (.slice (some ⟨gd,0,none⟩) n Cd) (f.blocks.set b (l.eraseIdx k)):=by
    have hlx:=hk.out.lenx
    have hle:=hk.out.lene
    refine⟨xs.set b (.slice A r C),by simp [hlx],?_,fun j y mm hy hmm => ?_⟩
    ·rw [List.length_set, ← hn.out]
     exact Qg (Yc hPd.out fun j hj=>by cases hj;exact hQP gd hgdW) (fun j hj=>by cases hj;exact hgdW)
    ·by_cases e : j = b
     ·subst e
      rw [Jf (by rw [hlx,←hn.out];exact hbn)] at hy
      rw [Jf (by rw [←hn.out];exact hbn)] at hmm
      cases hy;cases hmm
      have hle2:(es.eraseIdx k).length=(l.eraseIdx k).length:=by rw [List.length_eraseIdx,List.length_eraseIdx,hlc.out]
      refine⟨List.zipWith (fun x e=>insC x e.1 e.2) (l.eraseIdx k) (es.eraseIdx k),by rw [List.length_zipWith,hle2,Nat.min_self],?_,fun q cs z9 hq hz => ?_⟩
      ·rw [← hre.out]
       exact Zd (Yc hPr.out fun j hj=>hQP j (by have:=(Ya hPr.out hj).1;omega)) hXW
      ·have hq2 : (es.eraseIdx k)[q]? = some ((es.eraseIdx k)[q]'(by rw [hle2]; exact (Js.1 hz).1)) := Jg _
       generalize (es.eraseIdx k)[q]'(by rw [hle2];exact(Js.1 hz).1)=ee at hq2
       rw [List.getElem?_zipWith,hz,hq2] at hq
       simp only [Option.some.injEq] at hq
       have e1:=erN_end k l
       have e2:=erN_end k es
       rw [hlc.out] at e2
       rw [←e1] at hz
       rw [←e2] at hq2
       obtain⟨q9,g1,g2⟩:=erN_zip hz hq2
       have hcr:=hkd.inn _ _ _ _ hx.out hl.out he.out
       exact⟨_,_,hq.symm,hins9 hcr q9 _ _ g1 g2⟩
     ·rw [Je (fun h => e h.symm)] at hy hmm
      have hj:ess[j]? = some (ess[j]'(by rw [hle];exact(Js.1 hmm).1)):=Jg _
      generalize ess[j]'(by rw [hle];exact(Js.1 hmm).1)=ej at hj
      have hcj:=hkd.inn j y mm _ hy hmm hj
      refine⟨List.zipWith (fun(x:Ins) (e:Value×Value)=>insC x e.1 e.2) mm ej,by rw [List.length_zipWith,hcj.len,Nat.min_self],Yc hcj.row fun k9 hk9=>hQX k9 (Ya hcj.row hk9).1 (Ya hcj.row hk9).2.1 (Z6 (Ya hcj.row hk9).2.2 tyD (by decide)),fun q cs z9 hq hz => ?_⟩
      have hq2:ej[q]? = some (ej[q]'(by rw [hcj.len];exact(Js.1 hz).1)):=Jg _
      generalize ej[q]'(by rw [hcj.len];exact(Js.1 hz).1)=ee at hq2
      rw [List.getElem?_zipWith,hz,hq2] at hq
      simp only [Option.some.injEq] at hq
      exact⟨_,_,hq.symm,hins9 hcj q _ _ hz hq2⟩
   exact⟨_,_,rfl,hpar.mono hws,hOK.mono hws,hfin⟩
theorem rended_any (f : Fun) (b q : Nat) (l : List Ins) (hl : f.blocks[b]? = some l) (hq : l.length = q + 1) (t : Int) (gj : Nat) (c1 d1 : Value) (w : World) (B : Nat) (hB : B ≤ w.heap.size) (hf : RFun.rep w B [.string f.name, c1, .int .i64 f.ret, d1] f) (hs : Zs f) (hj : OwnI w 0 (.slice (some ⟨gj, 0, none⟩) 1 1) [t]) :
  Calls Tryz.prog 65 #[f.v c1 d1, .int .i64 b, .agg #[.int .i64 31, .int .i64 (-1), .int .i64 0, .int .i64 0, .int .i64 0, .slice none 0 0, .slice (some ⟨gj,0,none⟩) 1 1]] w (GivesB (min gj w.heap.size) f (f.blocks.set b (setEnd l (brJ t))) w):=by
 obtain⟨m,hm⟩:=Jn (l.length)
 have hmle:m≤2000000:=by rw [hm.out];exact(hs.code l (Jm hl)).1
 have hmq:(m:Int) - 1=(q:Int):=by have:=hm.out;omega
 have hqm:(q:Int)<(m:Int):=by omega
 have hwq:IntKind.i64.wrap (q:Int)=(q:Int):=by rw [IntKind.wrap_i64];have:=hm.out;omega
 have hse:Hid (setEnd l (brJ t)=l.set q (brJ t)):=hide (by unfold setEnd;rw [hq];rfl)
 obtain⟨ins,hins⟩:=Yf (l:=l) (k:=q) (by omega)
 refine hd3 hl hj hq ?_;clear hl hj hq;intro hl hj hq
 obtain⟨-, -, -, -, -,hret,hnm⟩:=id hf
 obtain⟨hp,hb⟩:=Yk (RFun.later hf (Below.refl _ _) hB)
 obtain⟨A1,k1,h1, -, -⟩:=Rp.slice1_open hp
 obtain⟨A2,k2,h2,hm2, -⟩:=Rp.slice1_open hb
 cases h1;cases h2
 clear hp hb hm2
 obtain⟨n,hn⟩:=Jn (f.blocks.length)
 obtain⟨np,hnp⟩:∃n,Hid (n=f.params.length):=⟨_,hide rfl⟩
 have hnle:n≤2000000:=by rw [hn.out];exact hs.blocks
 rw [←hn.out,←hnp.out] at hf⊢
 obtain⟨W,hW,hwW,hWs,hx1,hxe,hx2⟩:=boxes3 w #[.string f.name, .slice A1 np k1, .int .i64 f.ret, .slice A2 n k2] #[.int .i64 31, .int .i64 (-1), .int .i64 0, .int .i64 0, .int .i64 0, .slice none 0 0, .slice (some ⟨gj,0,none⟩) 1 1] #[.string ⟨#[]⟩, .slice none 0 0, .int .i64 0, .slice none 0 0] 32 44 32
 obtain⟨Nr,hNr⟩:=Jn (w.heap.size+1+1)
 obtain⟨Ne,hNe⟩:=Jn (w.heap.size+1)
 have hR0:W.heap[Nr]? = some (.cells #[.string ⟨#[]⟩, .slice none 0 0, .int .i64 0, .slice none 0 0] 32 (0,0)):=by
  rw [←hW,hNr.out]
  have:=Yt ((w.alloc (.cells #[.string f.name, .slice A1 np k1, .int .i64 f.ret, .slice A2 n k2] 32)).alloc (.cells #[.int .i64 31, .int .i64 (-1), .int .i64 0, .int .i64 0, .int .i64 0, .slice none 0 0, .slice (some ⟨gj,0,none⟩) 1 1] 44)) (.cells #[.string ⟨#[]⟩, .slice none 0 0, .int .i64 0, .slice none 0 0] 32)
  simpa using this
 rw [←hNe.out] at hxe
 have hself:=Below.refl W.heap.size W
 have q0:=hx1 0 _ rfl W hself
 have q1:=hx1 1 _ rfl W hself
 have q2:=hx1 2 _ rfl W hself
 have q3:=hx1 3 _ rfl W hself
 have hNrW:Nr<W.heap.size:=(Array.getElem?_eq_some_iff.1 hR0).1
 have hNrw:w.heap.size≤Nr:=by have:=hNr.out;omega
 have hws:w.heap.size≤W.heap.size:=hwW.size
 have cC:=hide (Qn f (.slice A1 np k1) (.slice A2 n k2) W B (by omega) (RFun.later hf (hwW.mono hB) (Nat.le_refl _)) hs)
 refine hd8 hR0 hs hf hwW hWs hW hret hnm ?_;clear hR0 hs hf hwW hWs hW hret hnm;intro hR0 hs hf hwW hWs hW hret hnm
 clear hx1 hx2
 have X0:=hxe 0 _ rfl
 have X1:=hxe 1 _ rfl
 have X2:=hxe 2 _ rfl
 have X3:=hxe 3 _ rfl
 have X4:=hxe 4 _ rfl
 have X5:=hxe 5 _ rfl
 have X6:=hxe 6 _ rfl
 clear hxe
 go_enter Tryz.func65,Tryz.ntmps65
 go_upto_region 1 with(fail)
 rw [hW.out,←hNr.out,←hNe.out]
 go_wp2_with (fail)
 refine cC.out.mono ?_
 rintro e V ⟨c,d,L,rfl,hOI,hPL,hOK,hL0,hbV⟩
 obtain⟨Am,Cm,hcm⟩:=Yd hOI.row
 subst hcm
 obtain⟨Ad,Cd,hdm⟩:=hOK.form
 subst hdm
 rw [←hnp.out] at hOI hPL⊢
 rw [←hn.out] at hOK⊢
 obtain⟨X,hX⟩:∃X,Hid (V.alloc (.cells #[.string f.name, .slice Am np Cm, .int .i64 f.ret, .slice Ad n Cd] 32)=X):=⟨_,hide rfl⟩
 obtain⟨hM0,hWX,hXs⟩:=Ybe hOI hPL hOK hL0 hbV hX.out.symm hret.out hnm.out
 obtain⟨N,hN⟩:=Jn (V.heap.size)
 have hNW:W.heap.size≤N:=by rw [hN.out];exact hbV.size
 rw [←hN.out] at hM0
 have hT0:Hid (∀k,(fun k=>L≤k∧k<N) k→W.heap.size≤k):=hide (fun k hk=>by have:=hk.1;omega)
 have hcW:Hid (∀k,(Value.slice Am np Cm).ownBlock=some k→W.heap.size≤k):=hide (fun k hk=>(Ya hOI.row hk).1)
 have hselfX:=Below.refl X.heap.size X
 refine hd4 hM0 hbV hXs hL0 ?_;clear hM0 hbV hXs hL0;intro hM0 hbV hXs hL0
 clear hOI hPL hOK q0 q1 q2 q3 cC hself
 go_upto_region 2 with(fail)
 rw [hX.out,←hN.out]
 clear hX
 have hbn:b<n:=by rw [hn.out];exact(Js.1 hl.out).1
 have hbi:(b:Int)<(n:Int):=by omega
 obtain⟨xs,ess,hk,hTB⟩:=hM0.out.tree
 have hbs:f.blocks[b]? = some l:=hl.out
 obtain⟨x,es,hx,he,hcd⟩:=hk.row_at hbs
 obtain⟨gd,CD9,hgdf, -,hgd⟩:=hk.row.form (by rw [←hn.out];omega)
 have hAd:=(Value.slice.inj hgdf).1
 subst hAd
 clear hgdf
 obtain⟨Ax,Cx,hxf⟩:=Yd hcd.row
 rw [←hm.out] at hxf
 subst hxf
 obtain⟨gc,CX9,hgcf, -,hgcl⟩:=hcd.row.form (by have:=hm.out;omega)
 have hAx:=(Value.slice.inj hgcf).1
 subst hAx
 clear hgcf
 have hgdl:gd<X.heap.size:=(Ya hk.row rfl).2.1
 have hNl:=hM0.out.lt
 have hgcl2:gc<X.heap.size:=(Ya hcd.row rfl).2.1
 have f3':=Yg (Yb hM0.out.box 3 rfl) hNl
 have fx:=Yg (hk.blk_cell hx) hgdl
 obtain⟨ca,ct,hei,hva,hvt,hok⟩:=hcd.ins_at hins.out
 obtain⟨z0,z1,z2,z3,z4,z5,z6⟩:=cell7 hcd hins.out hei
 have hrow7:=hide hcd.row
 have xz:∀j,X.frozen? ⟨gc,j,none⟩=false:=fun j=>Zh hrow7.out j
 have y0:=xz (q*7)
 have y1:=xz (q*7+1)
 have y2:=xz (q*7+2)
 have y3:=xz (q*7+3)
 have y4:=xz (q*7+4)
 have y5:=xz (q*7+5)
 have y6:=xz (q*7+6)
 refine hd10 hx he hei hva hvt hok hcd hk hTB hbs ?_;clear hx he hei hva hvt hok hcd hk hTB hbs;intro hx he hei hva hvt hok hcd hk hTB hbs
 clear xz
 go_upto_region 2 with(fail)
 refine Y0 (S:=fun u=>u=X.drew) (T:=fun j=>decide (j<16)) (by kernel_rfl) ?_
 have hXd:Below X.heap.size X X.drew:=hselfX.drew
 have hWd:Below W.heap.size W X.drew:=hWX.drew
 have d3:=f3' _ hXd
 have dx:=fx _ hXd
 have E0:=X0 _ hWd
 have E1:=X1 _ hWd
 have E2:=X2 _ hWd
 have E3:=X3 _ hWd
 have E4:=X4 _ hWd
 have E5:=X5 _ hWd
 have E6:=X6 _ hWd
 have z0:X.drew.cell? ⟨gc,q*7,none⟩=some (.int .i64 ins.op):=z0
 have z1:X.drew.cell? ⟨gc,q*7+1,none⟩=some (.int .i64 ins.reg):=z1
 have z2:X.drew.cell? ⟨gc,q*7+2,none⟩=some (.int .i64 ins.ty):=z2
 have z3:X.drew.cell? ⟨gc,q*7+3,none⟩=some (.int .i64 ins.num):=z3
 have z4:X.drew.cell? ⟨gc,q*7+4,none⟩=some (.int .i64 ins.flags):=z4
 have z5:X.drew.cell? ⟨gc,q*7+5,none⟩=some (ca):=z5
 have z6:X.drew.cell? ⟨gc,q*7+6,none⟩=some (ct):=z6
 have y0:X.drew.frozen? ⟨gc,q*7,none⟩=false:=y0
 have y1:X.drew.frozen? ⟨gc,q*7+1,none⟩=false:=y1
 have y2:X.drew.frozen? ⟨gc,q*7+2,none⟩=false:=y2
 have y3:X.drew.frozen? ⟨gc,q*7+3,none⟩=false:=y3
 have y4:X.drew.frozen? ⟨gc,q*7+4,none⟩=false:=y4
 have y5:X.drew.frozen? ⟨gc,q*7+5,none⟩=false:=y5
 have y6:X.drew.frozen? ⟨gc,q*7+6,none⟩=false:=y6
 obtain⟨K1,hK1⟩:∃K1,X.drew=K1:=⟨_,rfl⟩
 have hS1:Hid (Below X.heap.size X K1):=hide (hK1▸hXd)
 have hSW:Hid (Below W.heap.size W K1):=hide (hK1▸hWd)
 rw [hK1] at d3 dx E0 E1 E2 E3 E4 E5 E6 y0 y1 y2 y3 y4 y5 y6 z0 z1 z2 z3 z4 z5 z6⊢
 have hS0:Hid (K1=K1):=hide rfl
 clear hXd hWd hK1 X0 X1 X2 X3 X4 X5 X6 f3' fx
 refine Jt (i:=0) hS0.out ?_
 refine Jt (i:=1) hS0.out ?_
 refine Jt (i:=2) hS0.out ?_
 refine Jt (i:=3) hS0.out ?_
 refine Jt (i:=4) hS0.out ?_
 refine Jt (i:=5) hS0.out ?_
 refine Jt (i:=6) hS0.out ?_
 refine Jt (i:=7) hS0.out ?_
 refine Jt (i:=8) hS0.out ?_
 refine Jt (i:=9) hS0.out ?_
 refine Jt (i:=10) hS0.out ?_
 refine Jt (i:=11) hS0.out ?_
 refine Jt (i:=12) hS0.out ?_
 refine Jt (i:=13) hS0.out ?_
 refine Jt (i:=14) hS0.out ?_
 refine Jt (i:=15) hS0.out ?_
 refine Jr (i:=16) fun K hK => ?_
 go_simp
 refine Jo hK (fun h=>absurd h (by decide)) ?_;clear hK K
 refine Yu (by kernel_rfl) ?_ _
 have hTgc:=hTB.out gc (.inr (.inl ⟨_,Jm hx.out,rfl⟩))
 have hgcW:W.heap.size≤gc:=hT0.out gc hTgc
 have hNgc:N≠gc:=fun e=>hM0.out.out (e▸hTgc)
 have hgcNr:gc≠Nr:=by omega
 have hjX:Hid (OwnI K1 0 (.slice (some ⟨gj,0,none⟩) 1 1) [t]):=hide (hj.out.kept fun k _ hk=>(hwW.out.trans (hSW.out.mono hws)).block k hk)
 have hgjN:gj<w.heap.size:=(Ya hj.out.row rfl).2.1
 have hgjty:gj≠gc:=by omega
 obtain⟨P,hP⟩:∃P,Hid ((((((((K1.setCell ⟨gc,q*7,none⟩ (.int .i64 31)).setCell ⟨gc,q*7+1,none⟩ (.int .i64 (-1))).setCell ⟨gc,q*7+2,none⟩ (.int .i64 0)).setCell ⟨gc,q*7+3,none⟩ (.int .i64 0)).setCell ⟨gc,q*7+4,none⟩ (.int .i64 0)).setCell ⟨gc,q*7+5,none⟩ (.slice none 0 0)).setCell ⟨gc,q*7+6,none⟩ (.slice (some ⟨gj,0,none⟩) 1 1))=P):=⟨_,hide rfl⟩
 rw [hP.out]
 have hPg:Hid (P.heap[gc]? = (Ya8 K1 gc (q*7) (brJ t) (.slice none 0 0) (.slice (some ⟨gj,0,none⟩) 1 1)).heap[gc]?):=hide (by rw [←hP.out];rfl)
 have hPo:Hid (∀k,k≠gc→P.heap[k]? = K1.heap[k]?):=hide (fun k hk=>by rw [←hP.out];exact Yb7 K1 gc (q*7) (brJ t) (.slice none 0 0) (.slice (some ⟨gj,0,none⟩) 1 1) k hk)
 have hbP:Below W.heap.size W P:=by
  rw [←hP.out]
  exact(((((((hSW.out.setCell (p:=⟨gc,q*7,none⟩) hgcW _).setCell (p:=⟨gc,q*7+1,none⟩) hgcW _).setCell (p:=⟨gc,q*7+2,none⟩) hgcW _).setCell (p:=⟨gc,q*7+3,none⟩) hgcW _).setCell (p:=⟨gc,q*7+4,none⟩) hgcW _).setCell (p:=⟨gc,q*7+5,none⟩) hgcW _).setCell (p:=⟨gc,q*7+6,none⟩) hgcW _)
 have hPN:Hid (P.heap[N]? = some (.cells #[.string f.name, .slice Am np Cm, .int .i64 f.ret, .slice (some ⟨gd,0,none⟩) n Cd] 32 (0,0))):=hide ((hPo.out N hNgc).trans ((hS1.out.block N hNl).trans hM0.out.box))
 clear hP d3 dx E0 E1 E2 E3 E4 E5 E6 y0 y1 y2 y3 y4 y5 y6 z0 z1 z2 z3 z4 z5 z6 hgjty
 have hRV:=(hbP.block Nr hNrW).trans hR0.out
 obtain⟨n0,n1,n2,n3⟩:=bx4 hRV
 obtain⟨g0,g1,g2,g3⟩:=bf4 hRV
 have v0:P.cell? ⟨N,0,none⟩=some (.string f.name):=Yb hPN.out 0 rfl
 have v1:=Yb hPN.out 1 rfl
 have v2:P.cell? ⟨N,2,none⟩=some (.int .i64 f.ret):=Yb hPN.out 2 rfl
 have v3:=Yb hPN.out 3 rfl
 replace hRV:=hide hRV
 go_wp2
 refine bodyPost_ret (v:=f.v (.slice Am np Cm) (.slice (some ⟨gd,0,none⟩) n Cd)) (by simp [results,Tryz.results65,go_sem,n0,n1,n2,n3,g0,g1,g2,g3]) rfl ?_
 have hwV:=hwW.out.trans (hbP.mono hws)
 have hfin:=(((hwV.setCell (p:=⟨Nr,0,none⟩) hNrw (.string f.name)).setCell (p:=⟨Nr,1,none⟩) hNrw (.slice Am np Cm)).setCell (p:=⟨Nr,2,none⟩) hNrw (.int .i64 f.ret)).setCell (p:=⟨Nr,3,none⟩) hNrw (.slice (some ⟨gd,0,none⟩) n Cd)
 have hkp:∀(u0 u1 u2 u3:Value) (k:Nat),W.heap.size≤k→((((P.setCell ⟨Nr,0,none⟩ u0).setCell ⟨Nr,1,none⟩ u1).setCell ⟨Nr,2,none⟩ u2).setCell ⟨Nr,3,none⟩ u3).heap[k]? = P.heap[k]? := fun u0 u1 u2 u3 k hk=>by
  have e1:k≠Nr:=by omega
  rw [Below.heap_setCell _ ⟨Nr,3,none⟩ _ _ e1,Below.heap_setCell _ ⟨Nr,2,none⟩ _ _ e1,Below.heap_setCell _ ⟨Nr,1,none⟩ _ _ e1,Below.heap_setCell _ ⟨Nr,0,none⟩ _ _ e1]
 have hk2:∀(u0 u1 u2 u3:Value) (k:Nat),k≠Nr→((((P.setCell ⟨Nr,0,none⟩ u0).setCell ⟨Nr,1,none⟩ u1).setCell ⟨Nr,2,none⟩ u2).setCell ⟨Nr,3,none⟩ u3).heap[k]? = P.heap[k]? := fun u0 u1 u2 u3 k e1=>by
  rw [Below.heap_setCell _ ⟨Nr,3,none⟩ _ _ e1,Below.heap_setCell _ ⟨Nr,2,none⟩ _ _ e1,Below.heap_setCell _ ⟨Nr,1,none⟩ _ _ e1,Below.heap_setCell _ ⟨Nr,0,none⟩ _ _ e1]
 have hkK:Yr K1 0 (.slice (some ⟨gd,0,none⟩) n Cd) f.blocks xs ess:=hk.out.kept fun k _ h9=>hS1.out.block k h9
 have hOK:=hkK.write (w':=(((P.setCell ⟨Nr,0,none⟩ (.string f.name)).setCell ⟨Nr,1,none⟩ (.slice Am np Cm)).setCell ⟨Nr,2,none⟩ (.int .i64 f.ret)).setCell ⟨Nr,3,none⟩ (.slice (some ⟨gd,0,none⟩) n Cd)) hbs.out hx.out he.out hins.out hei.out (x:=brJ t) (c' := .slice none 0 0) (t' := .slice (some ⟨gj,0,none⟩) 1 1) OwnV.nil_ hjX.out ⟨(by decide:I64 31),(by decide:I64 (-1)),(by decide:I64 0),(by decide:I64 0),(by decide:I64 0)⟩ ((hk2 _ _ _ _ gc hgcNr).trans hPg.out) (fun k h9 h8=>by
  have hkNr:k≠Nr:=by
   rcases h8 with h8|h8|h8
   ·have:=hT0.out k (hTB.out k h8);omega
   ·cases h8
   ·have:=(Ya hj.out.row h8).2.1;omega
  exact(hk2 _ _ _ _ k hkNr).trans (hPo.out k h9)) (b0:=min gj w.heap.size) (fun k h8=>by
  rcases h8 with h8|h8|h8
  ·have:=hT0.out k (hTB.out k h8);omega
  ·cases h8
  ·have e9 : gj = k := by simpa [Value.ownBlock] using h8
   omega)
 have hpar:OwnI ((((P.setCell ⟨Nr,0,none⟩ (.string f.name)).setCell ⟨Nr,1,none⟩ (.slice Am np Cm)).setCell ⟨Nr,2,none⟩ (.int .i64 f.ret)).setCell ⟨Nr,3,none⟩ (.slice (some ⟨gd,0,none⟩) n Cd)) (min gj w.heap.size) (.slice Am np Cm) f.params:=⟨Qg (Yc hM0.out.par.row fun k h9=>by
  have h7:=hcW.out k h9
  have h6:=hM0.out.far k h9
  rw [hk2 _ _ _ _ k (by omega),hPo.out k (fun e=>h6.1 (e▸hTgc)),hS1.out.block k (Ya hM0.out.par.row h9).2.1]) (fun k h9=>by have:=hcW.out k h9;omega),hM0.out.par.ok⟩
 refine⟨_,_,rfl,hpar,?_,hfin⟩
 rw [hse.out]
 exact hOK
theorem rwithout17_any (f : Fun) (gl : List Int) (gone : List Bool) (hgn : gone.length = f.blocks.length) (hgg : ∀ (k : Nat) g, gone[k]? = some g → decide ((k : Int) ∈ gl) = g) (hwf : ∀ l, l ∈ f.blocks → ∀ x, x ∈ l → ∀ t, t ∈ x.to → 0 ≤ t ∧ t < f.blocks.length) (Ag : Option Addr) (Cg : Nat) (c1 d1 : Value) (w : World) (B : Nat) (hB : B ≤ w.heap.size) (hf : RFun.rep w B [.string f.name, c1, .int .i64 f.ret, d1] f) (hs : Zs f) (hg : OwnI w 0 (.slice Ag gl.length Cg) gl) (hgl : gl.length ≤ 4000000) :
  Calls Tryz.prog 72 #[f.v c1 d1, .slice Ag gl.length Cg] w (GivesF f (Yn gone f.blocks) w):=by
 obtain⟨ng,hng⟩:=Jn (gl.length)
 rw [←hng.out]
 refine hd4 hg hgn hgg hwf ?_;clear hg hgn hgg hwf;intro hg hgn hgg hwf
 obtain⟨-, -, -, -, -,hret,hnm⟩:=id hf
 obtain⟨hp,hb⟩:=Yk (RFun.later hf (Below.refl _ _) hB)
 obtain⟨A1,k1,h1, -, -⟩:=Rp.slice1_open hp
 obtain⟨A2,k2,h2,hm2, -⟩:=Rp.slice1_open hb
 cases h1;cases h2
 clear hp hb hm2
 obtain⟨n,hn⟩:=Jn (f.blocks.length)
 obtain⟨np,hnp⟩:∃n,Hid (n=f.params.length):=⟨_,hide rfl⟩
 have hnle:n≤2000000:=by rw [hn.out];exact hs.blocks
 rw [←hn.out,←hnp.out] at hf⊢
 obtain⟨W,hW,hwW,hWs,hx1,hx2⟩:=Qb w #[.string f.name, .slice A1 np k1, .int .i64 f.ret, .slice A2 n k2] #[.string ⟨#[]⟩, .slice none 0 0, .int .i64 0, .slice none 0 0] 32 32
 obtain⟨Nr,hNr⟩:=Jn (w.heap.size+1)
 have hR0:W.heap[Nr]? = some (.cells #[.string ⟨#[]⟩, .slice none 0 0, .int .i64 0, .slice none 0 0] 32 (0,0)):=by
  rw [←hW,hNr.out]
  have:=Yt (w.alloc (.cells #[.string f.name, .slice A1 np k1, .int .i64 f.ret, .slice A2 n k2] 32)) (.cells #[.string ⟨#[]⟩, .slice none 0 0, .int .i64 0, .slice none 0 0] 32)
  simpa using this
 have hself:=Below.refl W.heap.size W
 have q0:=hx1 0 _ rfl W hself
 have q1:=hx1 1 _ rfl W hself
 have q2:=hx1 2 _ rfl W hself
 have q3:=hx1 3 _ rfl W hself
 have hNrW:Nr<W.heap.size:=(Array.getElem?_eq_some_iff.1 hR0).1
 have hNrw:w.heap.size≤Nr:=by have:=hNr.out;omega
 have hws:w.heap.size≤W.heap.size:=hwW.size
 have cC:=hide (Qn f (.slice A1 np k1) (.slice A2 n k2) W B (by omega) (RFun.later hf (hwW.mono hB) (Nat.le_refl _)) hs)
 refine hd8 hR0 hs hf hwW hWs hW hret hnm ?_;clear hR0 hs hf hwW hWs hW hret hnm;intro hR0 hs hf hwW hWs hW hret hnm
 clear hx1 hx2
 go_enter Tryz.func72,Tryz.ntmps72
 go_upto_region 1 with(fail)
 rw [hW.out,←hNr.out]
 go_wp2_with (fail)
 refine cC.out.mono ?_
 rintro e V ⟨c,d,L,rfl,hOI,hPL,hOK,hL0,hbV⟩
 obtain⟨Am,Cm,hcm⟩:=Yd hOI.row
 subst hcm
 obtain⟨Ad,Cd,hdm⟩:=hOK.form
 subst hdm
 rw [←hnp.out] at hOI hPL⊢
 rw [←hn.out] at hOK⊢
 obtain⟨X,hX⟩:∃X,Hid (V.alloc (.cells #[.string f.name, .slice Am np Cm, .int .i64 f.ret, .slice Ad n Cd] 32)=X):=⟨_,hide rfl⟩
 obtain⟨hM0,hWX,hXs⟩:=Ybe hOI hPL hOK hL0 hbV hX.out.symm hret.out hnm.out
 obtain⟨N,hN⟩:=Jn (V.heap.size)
 have hNW:W.heap.size≤N:=by rw [hN.out];exact hbV.size
 rw [←hN.out] at hM0
 have hT0:Hid (∀k,(fun k=>L≤k∧k<N) k→W.heap.size≤k):=hide (fun k hk=>by have:=hk.1;omega)
 have hcW:Hid (∀k,(Value.slice Am np Cm).ownBlock=some k→W.heap.size≤k):=hide (fun k hk=>(Ya hOI.row hk).1)
 have hselfX:=Below.refl X.heap.size X
 refine hd4 hM0 hbV hXs hL0 ?_;clear hM0 hbV hXs hL0;intro hM0 hbV hXs hL0
 clear hOI hPL hOK q0 q1 q2 q3 cC hself
 go_upto_region 2 with(fail)
 rw [hX.out,←hN.out]
 clear hX
 obtain⟨p0,hp0,hp1,hp2,hp3⟩:=Yh cinfo_Block
 refine hd4 hp0 hp1 hp2 hp3 ?_;clear hp0 hp1 hp2 hp3;intro hp0 hp1 hp2 hp3
 obtain⟨T0,hTe⟩:∃T0:Nat→Prop,Hid (T0=fun k=>L≤k∧k<N):=⟨_,hide rfl⟩
 rw [←hTe.out] at hM0
 replace hT0:Hid (∀k,T0 k→W.heap.size≤k):=hide (fun k hk=>hT0.out k (by rw [hTe.out] at hk;exact hk))
 have hNX:N<X.heap.size:=hM0.out.lt
 have hT0lt:Hid (∀k,T0 k→k<X.heap.size):=hide (fun k hk=>by rw [hTe.out] at hk;have:=hk.2;omega)
 obtain⟨xs,ess,hk,hT⟩:=hM0.out.tree
 have c3o:∀w',Only T0 X.heap.size X w'→w'.cell? ⟨N,3,none⟩=some (.slice Ad n Cd):=Yx (Yb hM0.out.box 3 rfl) hNX hM0.out.out
 have hasC:Hid (∀(k:Nat) g,gone[k]? = some g→∀w',Only T0 X.heap.size X w'→Calls Tryz.prog 83 #[.slice Ag ng Cg, .int .i64 k] w' fun e w''=>e = .returned (.bool g)∧w''=w'):=hide (fun k g hkg w' h9=>by
  have h8:OwnI w' 0 (.slice Ag gl.length Cg) gl:=hg.out.kept fun j _ hj=>by
   rw [h9.block j (by have:=hWX.size;omega) (fun e=>by have:=hT0.out j e;omega)]
   exact(hwW.out.trans (hWX.mono hws)).block j hj
  have h7:=rhas_any Ag Cg gl k w' 0 hgl h8
  rw [hgg.out k g hkg,←hng.out] at h7
  exact h7)
 have hk0:Hid (Yr X 0 (.slice Ad n Cd) (renB gone f.blocks 0) xs ess):=hide (by rw [renB_zero];exact hk)
 have hl1:Hid ((0:Nat)=Ys gone 0):=hide (by simp [Ys])
 have hr0:Hid (X.ownsRow X.heap.size 41 1 (.slice none 0 0) (Ys gone 0) ((Zz gone 0).map fun k=>xs.getD k (.slice none 0 0))):=hide ⟨by simp [Zz,Ys], .inl ⟨rfl,by simp [Ys]⟩⟩
 have hon0:Only T0 X.heap.size X X:=Only.refl _ _ _
 refine hd2 hk hT ?_;clear hk hT;intro hk hT
 clear hselfX
 go_wp2
 go_loopw [6,7] (fun s6 s wr=>∃(b:Nat) (A:Option Addr) (C:Nat),s6 = .slice A (Ys gone b) C∧s = .int .i64 b∧b≤n∧Hid (Yr wr 0 (.slice Ad n Cd) (renB gone f.blocks b) xs ess)∧Hid (wr.ownsRow X.heap.size 41 1 (.slice A (Ys gone b) C) (Ys gone b) ((Zz gone b).map fun k=>xs.getD k (.slice none 0 0)))∧Only T0 X.heap.size X wr) (fun _ s _=>n - (intOf s).toNat)
 case atStart=>exact⟨0,none,0,by rw [←hl1.out],rfl,Nat.zero_le _,hk0,hr0,hon0⟩
 case round =>
  clear hk0 hr0 hon0
  rename World=>V2
  obtain⟨b,A,C,rfl,rfl,hb,hkb,hrb,hon⟩:=hrel
  have hV2s:=hon.size
  have c3V2:=c3o V2 hon
  by_cases hltb:b<n
  ·have hbi : (b : Int) < (n : Int) := by omega
   obtain⟨gb,hgb⟩:=Yf (l:=gone) (k:=b) (by rw [hgn.out,←hn.out];exact hltb)
   obtain⟨l,hl⟩:=Yf (l:=f.blocks) (k:=b) (by rw [←hn.out];exact hltb)
   have hwl:=hide (hwf.out l (Jm hl.out))
   obtain⟨x,es,hx,he,hcd⟩:=hkb.out.row_at (renB_at (gone:=gone) hl.out (Nat.le_refl b))
   obtain⟨gd,CD9,hgdf, -,hgd⟩:=hkb.out.row.form (by rw [Yaq,←hn.out];omega)
   rw [Yaq,←hn.out] at hgdf
   have hAd:=(Value.slice.inj hgdf).1
   subst hAd
   clear hgdf CD9
   obtain⟨Ax,Cx,hxf⟩:=Yd hcd.row
   subst hxf
   obtain⟨m,hm⟩:=Jn (l.length)
   rw [←hm.out] at hx
   have hmb:m≤2000000:=by rw [hm.out];exact(hs.out.code l (Jm hl.out)).1
   have hlenb:=leftN_le gone b
   have hkn:=hide (keptN_next hgb.out)
   have hln:=hide (Ybc hgb.out)
   have hHas:=hide (hasC.out b gb hgb.out V2 hon)
   refine hd4 hx he hcd hgb ?_;clear hx he hcd hgb;intro hx he hcd hgb
   go_wp2_with (fail)
   refine hHas.out.mono ?_
   rintro e w9 ⟨rfl,hw9⟩
   obtain rfl:V2=w9:=hw9.symm
   clear hHas hw9
   cases gb with
   | true =>
    have hk2:Hid (Yr V2 0 (.slice (some ⟨gd,0,none⟩) n Cd) (renB gone f.blocks (b+1)) xs ess):=hide (by rw [←renB_gone hgb.out];exact hkb.out)
    have hl2:Hid (Ys gone (b+1)=Ys gone b):=hide (by rw [hln.out];rfl)
    have hr2:Hid (V2.ownsRow X.heap.size 41 1 (.slice A (Ys gone (b+1)) C) (Ys gone (b+1)) ((Zz gone (b+1)).map fun k=>xs.getD k (.slice none 0 0))):=hide (by
     rw [hl2.out,hkn.out]
     simpa using hrb.out)
    go_wp2
    go_roundw
    case rel=>exact⟨b+1,A,C,by rw [hl2.out],by go_num,hltb,hk2,hr2,hon⟩
    case measure=>simp [intOf];omega
   | false =>
    have hk3:Hid (Yr V2 0 (.slice (some ⟨gd,0,none⟩) n Cd) ((renB gone f.blocks b).set b (renL gone l 0)) xs ess):=hide (by
     rw [renL_zero,Qm (renB_at hl.out (Nat.le_refl b))]
     exact hkb.out)
    have hrX0:Hid (V2.ownsRow X.heap.size 41 1 (.slice A (Ys gone b) C) (Ys gone b) ((Zz gone b).map fun k=>xs.getD k (.slice none 0 0))):=hrb
    clear c3V2
    go_wp2
    go_loopw [9] (fun s wr=>∃i:Nat,s = .int .i64 i∧i≤m∧Hid (Yr wr 0 (.slice (some ⟨gd,0,none⟩) n Cd) ((renB gone f.blocks b).set b (renL gone l i)) xs ess)∧Hid (wr.ownsRow X.heap.size 41 1 (.slice A (Ys gone b) C) (Ys gone b) ((Zz gone b).map fun k=>xs.getD k (.slice none 0 0)))∧Only T0 X.heap.size X wr) (fun s _=>m - (intOf s).toNat)
    case atStart=>exact⟨0,rfl,Nat.zero_le _,hk3,hrX0,hon⟩
    case round =>
     clear hk3 hrX0 hon hkb hrb hV2s
     rename World=>V3
     obtain⟨i,rfl,hi3,hki,hri3,honi⟩:=hrel
     have hV3s:=honi.size
     have c3V3:=c3o V3 honi
     have hxcV3:=hki.out.blk_cell hx.out
     by_cases hlti:i<m
     ·have hii3 : (i : Int) < (m : Int) := by omega
      obtain⟨ins,hins⟩:=Yf (l:=l) (k:=i) (by rw [←hm.out];exact hlti)
      have hbset:Hid (((renB gone f.blocks b).set b (renL gone l i))[b]? = some (renL gone l i)):=hide (by rw [Jf (by rw [Yaq,←hn.out];exact hltb)])
      have hcdi:=hki.out.inn b _ _ es hx.out hbset.out he.out
      obtain⟨gc,CX9,hgcf, -,hgcl⟩:=hcdi.row.form (by rw [renL_len,←hm.out];omega)
      rw [renL_len,←hm.out] at hgcf
      have hAx:=(Value.slice.inj hgcf).1
      subst hAx
      clear hgcf CX9
      have hri:Hid ((renL gone l i)[i]? = some ins):=hide (renL_at hins.out)
      obtain⟨ca,ct,hei,hva,hvt,hok⟩:=hcdi.ins_at hri.out
      obtain⟨At,Ct,hct⟩:=Yd hvt.row
      subst hct
      obtain⟨nt,hnt⟩:=Jn (ins.to.length)
      rw [←hnt.out] at hei
      have hntb:nt≤2000000:=by rw [hnt.out];exact((hs.out.code l (Jm hl.out)).2 ins (Jm hins.out)).2
      have e6:=hcdi.cell_at hri.out hei (j:=6) rfl
      have hki0:Hid (Yr V3 0 (.slice (some ⟨gd,0,none⟩) n Cd) ((renB gone f.blocks b).set b ((renL gone l i).set i (renX gone ins 0))) xs ess):=hide (by
       rw [renX_zero,Qm hri.out]
       exact hki.out)
      refine hd5 hei hva hvt hok hcdi ?_;clear hei hva hvt hok hcdi;intro hei hva hvt hok hcdi
      go_wp2
      go_loopw [11] (fun s wr=>∃k:Nat,s = .int .i64 k∧k≤nt∧Hid (Yr wr 0 (.slice (some ⟨gd,0,none⟩) n Cd) ((renB gone f.blocks b).set b ((renL gone l i).set i (renX gone ins k))) xs ess)∧Hid (wr.ownsRow X.heap.size 41 1 (.slice A (Ys gone b) C) (Ys gone b) ((Zz gone b).map fun k=>xs.getD k (.slice none 0 0)))∧Only T0 X.heap.size X wr) (fun s _=>nt - (intOf s).toNat)
      case atStart=>exact⟨0,rfl,Nat.zero_le _,hki0,hri3,honi⟩
      case round =>
       clear hki0 e6 c3V3 hxcV3 honi hki hri3 hV3s
       rename World=>V4
       obtain⟨k,rfl,hk4,hkk,hri4,hon4⟩:=hrel
       have hV4s:=hon4.size
       by_cases hltk:k<nt
       ·have hkk3 : (k : Int) < (nt : Int) := by omega
        obtain⟨t,ht⟩:=Yf (l:=ins.to) (k:=k) (by rw [←hnt.out];exact hltk)
        obtain⟨tn,htn,htnn⟩:∃tn:Nat,t=(tn:Int)∧tn<n:=by
         have h9:=hwl.out ins (Jm hins.out) t (Jm ht.out)
         obtain⟨tn,e⟩:=Int.eq_ofNat_of_zero_le h9.1
         exact⟨tn,e,by have:=hn.out;have:=h9.2;omega⟩
        subst htn
        have hbset4:Hid (((renB gone f.blocks b).set b ((renL gone l i).set i (renX gone ins k)))[b]? = some ((renL gone l i).set i (renX gone ins k))):=hide (by rw [Jf (by rw [Yaq,←hn.out];exact hltb)])
        have hcd4:=hkk.out.inn b _ _ es hx.out hbset4.out he.out
        have hri5:Hid (((renL gone l i).set i (renX gone ins k))[i]? = some (renX gone ins k)):=hide (by rw [Jf (by rw [renL_len,←hm.out];exact hlti)])
        obtain⟨ca4,ct4,hei4,hva4,hvt4,hok4⟩:=hcd4.ins_at hri5.out
        rw [hei.out] at hei4
        cases hei4
        obtain⟨gt,CT9,htf, -,hgtl⟩:=hvt4.row.form (by rw [renX_to,←hnt.out];omega)
        rw [renX_to,←hnt.out] at htf
        have hAt:=(Value.slice.inj htf).1
        subst hAt
        clear htf CT9
        have hTgt:T0 gt:=hT.out gt (.inr (.inr ⟨es,_,Jm he.out,Jm hei.out, .inr rfl⟩))
        have q1:V4.cell? ⟨gt,k,none⟩=some (.int .i64 (tn:Int)):=by
         have hvr:=hvt4.row
         rw [renX_to,←hnt.out] at hvr
         rw [World.ownsRow.cellAt hvr k (by omega),List.getElem?_map,renX_at ht.out]
         rfl
        have q2:V4.frozen? ⟨gt,k,none⟩=false:=Zh hvt4.row k
        have hren:Hid (renT gone (tn:Int)=(Ys gone tn:Int)):=hide (by unfold renT;rw [Int.toNat_natCast])
        have hI:Hid (I64 (Ys gone tn:Int)):=hide (by have:=leftN_le gone tn;exact Ybw (by omega) (by omega))
        have hk5:Hid (Yr (V4.setCell ⟨gt,k,none⟩ (.int .i64 (Ys gone tn:Int))) 0 (.slice (some ⟨gd,0,none⟩) n Cd) ((renB gone f.blocks b).set b ((renL gone l i).set i (renX gone ins (k+1)))) xs ess):=hide (by
         have h9:=hkk.out.put_to (z:=(Ys gone tn:Int)) hbset4.out he.out hri5.out hei.out (by rw [renX_to,←hnt.out];exact hltk) hI.out
         rw [List.set_set,List.set_set,←hren.out,renX_next ht.out] at h9
         rw [←hren.out]
         exact h9)
        have hri6:Hid ((V4.setCell ⟨gt,k,none⟩ (.int .i64 (Ys gone tn:Int))).ownsRow X.heap.size 41 1 (.slice A (Ys gone b) C) (Ys gone b) ((Zz gone b).map fun k=>xs.getD k (.slice none 0 0))):=hide (Yc hri4.out fun j hj=>Below.heap_setCell V4 ⟨gt,k,none⟩ _ j (fun e=>by have e':j=gt:=e;have:=hT0lt.out gt hTgt;have:=(Ya hri4.out hj).1;omega))
        have hon5:Only T0 X.heap.size X (V4.setCell ⟨gt,k,none⟩ (.int .i64 (Ys gone tn:Int))):=hon4.setCell (p:=⟨gt,k,none⟩) (.inl hTgt) _
        have hz0:Hid ((Ys gone 0:Int)=0):=hide (by rw [←hl1.out];rfl)
        refine hd4 hva4 hvt4 hok4 hcd4 ?_;clear hva4 hvt4 hok4 hcd4;intro hva4 hvt4 hok4 hcd4
        go_wp2
        go_loopw [12,13] (fun s12 s wr=>∃x:Nat,s12 = .int .i64 (Ys gone x:Int)∧s = .int .i64 x∧x≤tn∧wr=V4) (fun _ s _=>tn - (intOf s).toNat)
        case atStart=>exact⟨0,by rw [hz0.out],rfl,Nat.zero_le _,rfl⟩
        case round =>
         obtain⟨y,rfl,rfl,hy,rfl⟩:=hrel
         by_cases hlty:y<tn
         ·have hyi : (y : Int) < (tn : Int) := by omega
          obtain⟨gy,hgy⟩:=Yf (l:=gone) (k:=y) (by rw [hgn.out,←hn.out];omega)
          have hHas:=hide (hasC.out y gy hgy.out _ hon4)
          have hlny:=hide (Ybc hgy.out)
          have hley:=leftN_le gone y
          replace hgy:=hide hgy
          go_wp2_with (fail)
          refine hHas.out.mono ?_
          rintro e w9 ⟨rfl,rfl⟩
          clear hHas
          cases gy with
          | true =>
           have hl2:Hid (Ys gone (y+1)=Ys gone y):=hide (by rw [hlny.out];rfl)
           go_wp2
           go_roundw
           case rel=>exact⟨y+1,by rw [hl2.out],by go_num,hlty,by first|trivial|rfl⟩
           case measure=>simp [intOf];omega
          | false =>
           have hl2:Hid (Ys gone (y+1)=Ys gone y+1):=hide (by rw [hlny.out];rfl)
           go_wp2
           go_roundw
           case rel=>exact⟨y+1,by rw [hl2.out];go_num,by go_num,hlty,by first|trivial|rfl⟩
           case measure=>simp [intOf];omega
         ·obtain rfl : tn = y := by omega
          go_wp2
          go_roundw
          case rel=>exact⟨k+1,by go_num,hltk,hk5,hri6,hon5⟩
          case measure=>simp [intOf];omega
       ·obtain rfl : nt = k := by omega
        have hk5:Hid (Yr V4 0 (.slice (some ⟨gd,0,none⟩) n Cd) ((renB gone f.blocks b).set b (renL gone l (i+1))) xs ess):=hide (by
         have h9:=hkk.out
         rw [hnt.out,renX_end,renL_next hins.out] at h9
         exact h9)
        go_wp2
        go_roundw
        case rel=>exact⟨i+1,by go_num,hlti,hk5,hri4,hon4⟩
        case measure=>simp [intOf];omega
     ·obtain rfl : m = i := by omega
      have hk5:Hid (Yr V3 0 (.slice (some ⟨gd,0,none⟩) n Cd) (renB gone f.blocks (b+1)) xs ess):=hide (by
       have h9:=hki.out
       rw [hm.out,renL_end,renB_next hl.out hgb.out] at h9
       exact h9)
      have hl2:Hid (Ys gone (b+1)=Ys gone b+1):=hide (by rw [hln.out];rfl)
      have hxg:Hid (xs.getD b (.slice none 0 0) = .slice Ax m Cx):=hide (by rw [Jq,hx.out];rfl)
      have hrr3:=hri3
      go_wp2_with (first
       | (at_builtin
          refine wpList_append_own _ rfl (.tmp 74) (.tmp 80) _ rfl X.heap.size 41 p0 _ 1 24 Tryz.underlying30 hp0.out hp1.out hp2.out hp3.out rfl (by omega) (.slice A (Ys gone b) C) _ _ rfl (hrr3.out.alloc _) ⟨V3.heap.size,0,none⟩ 1 1 [.slice Ax m Cx] rfl rfl ?c1 ?c2 ?c3 ?c4 ?c5 ?_
          case c1=>exact World.news_of_block (cs := #[.slice Ax m Cx]) (t := 41) (fr:=(0,0)) (heap_alloc_new V3 _)
          case c2=>simp [Value.oneCell']
          case c3=>unfold maxLen;omega
          case c4=>omega
          case c5=>first|(simp;omega)|simp|omega
          intro v9 w9 hown9 hg9 _
          have hon9:Only T0 X.heap.size X w9:=(honi.alloc hV3s _).trans ⟨hg9.os,hg9.tape,hg9.output,hg9.size,fun k hk hs9=>hg9.block k (by simp;omega) (fun e=>by have:=(Ya hrr3.out e.symm).1;omega)⟩
          have hk9:Hid (Yr w9 0 (.slice (some ⟨gd,0,none⟩) n Cd) (renB gone f.blocks (b+1)) xs ess):=hide (hk5.out.tb_kept fun k h1 h2=>(hg9.block k (by simp;omega) (fun e=>by have:=(Ya hrr3.out e.symm).1;have:=hT0lt.out k (hT.out k h2);omega)).trans (Below.heap_alloc _ _ _ h1))
          obtain⟨A8,C8,hv8⟩:=Yd hown9
          subst hv8
          have hr9:Hid (w9.ownsRow X.heap.size 41 1 (.slice A8 (Ys gone (b+1)) C8) (Ys gone (b+1)) ((Zz gone (b+1)).map fun k=>xs.getD k (.slice none 0 0))):=hide (by
           rw [hl2.out,hkn.out,List.map_append]
           simp only [Bool.false_eq_true,if_false,List.map_cons,List.map_nil,hxg.out]
           exact hown9)
          replace hown9:=hide hown9
          replace hg9:=hide hg9))
      go_roundw
      case rel=>exact⟨b+1,A8,C8,by rw [hl2.out],by go_num,hltb,hk9,hr9,hon9⟩
      case measure=>simp [intOf];omega
  ·obtain rfl : n = b := by omega
   have n4:V2.frozen? ⟨N,3,none⟩=false:=by
    have hb2:=(hon.block N hNX hM0.out.out).trans hM0.out.box
    simp [World.frozen?,hb2]
   have hbV2:Below W.heap.size W V2:=hWX.trans (hon.to_below (B':=W.heap.size) (fun k hk=>hT0.out k hk) hWX.size)
   obtain⟨P,hP⟩:∃P,Hid (V2.setCell ⟨N,3,none⟩ (.slice A (Ys gone n) C)=P):=⟨_,hide rfl⟩
   have hbP:Below W.heap.size W P:=hP.out▸hbV2.setCell (p:=⟨N,3,none⟩) hNW _
   obtain⟨nl,hnl⟩:=Jn (Ys gone n)
   have hMT:Hid (MF P (fun k=>T0 k∨X.heap.size≤k) N (Ye f (Yn gone f.blocks)) (.slice Am np Cm) (.slice A nl C)):=hide (by
    rw [←hP.out,hnl.out]
    have h1:=hrb.out
    have hkl:(Zz gone n).length=Ys gone n:=keptN_len (by rw [hgn.out,hn.out];exact Nat.le_refl _)
    rw [←hkl] at h1
    have h2:=hkb.out.pick (v' := .slice A (Zz gone n).length C) (keptN_nodup gone n) (fun k hk=>by rw [Yaq,←hn.out];exact keptN_lt hk) (Zd h1 (Nat.zero_le _))
    have h3:(Zz gone n).map (fun b=>(renB gone f.blocks n).getD b [])=Yn gone f.blocks:=by rw [hn.out];exact renB_end
    rw [h3,hkl] at h2
    exact(hM0.out.store_d (T':=fun k=>T0 k∨X.heap.size≤k) hon h2 (fun k hk=>by
     rcases hk with h9|⟨y,hy,h9⟩|⟨a,z,ha,hz,h9⟩
     ·right
      have:=(Ya h1 (by rw [hkl];exact h9)).1
      omega
     ·obtain ⟨q, hq, rfl⟩ := List.mem_map.1 hy
      have hq2:q<xs.length:=by rw [hk.out.lenx,←hn.out];exact keptN_lt hq
      exact .inl (hT.out k (.inr (.inl ⟨_,Jm (Zq hq2),h9⟩)))
     ·obtain ⟨q, hq, rfl⟩ := List.mem_map.1 ha
      have hq2:q<ess.length:=by rw [hk.out.lene,←hn.out];exact keptN_lt hq
      exact .inl (hT.out k (.inr (.inr ⟨_,z,Jm (Zq hq2),hz,h9⟩)))) (fun k hk=>hk)).1)
   have hTW:Hid (∀k,(fun k=>T0 k∨X.heap.size≤k) k→W.heap.size≤k):=hide (fun k hk=>hk.elim (fun h9=>hT0.out k h9) (fun h9=>by have:=hWX.size;omega))
   have n3:=c3V2
   clear c3V2
   go_upto_region 25 with(fail)
   rw [hP.out]
   rw [←hnl.out] at hP
   have hRV:=(hbP.block Nr hNrW).trans hR0.out
   obtain⟨n0,n1,n2,n3⟩:=bx4 hRV
   obtain⟨g0,g1,g2,g3⟩:=bf4 hRV
   have v0:P.cell? ⟨N,0,none⟩=some (.string f.name):=Yb hMT.out.box 0 rfl
   have v1:=Yb hMT.out.box 1 rfl
   have v2:P.cell? ⟨N,2,none⟩=some (.int .i64 f.ret):=Yb hMT.out.box 2 rfl
   have v3:=Yb hMT.out.box 3 rfl
   replace hRV:=hide hRV
   go_wp2
   refine bodyPost_ret (v:=f.v (.slice Am np Cm) (.slice A nl C)) (by simp [results,Tryz.results72,go_sem,n0,n1,n2,n3,g0,g1,g2,g3]) rfl ?_
   have hwV:=hwW.out.trans (hbP.mono hws)
   have hfin:=(((hwV.setCell (p:=⟨Nr,0,none⟩) hNrw (.string f.name)).setCell (p:=⟨Nr,1,none⟩) hNrw (.slice Am np Cm)).setCell (p:=⟨Nr,2,none⟩) hNrw (.int .i64 f.ret)).setCell (p:=⟨Nr,3,none⟩) hNrw (.slice A nl C)
   have hkp:∀(u0 u1 u2 u3:Value) (k:Nat),W.heap.size≤k→((((P.setCell ⟨Nr,0,none⟩ u0).setCell ⟨Nr,1,none⟩ u1).setCell ⟨Nr,2,none⟩ u2).setCell ⟨Nr,3,none⟩ u3).heap[k]? = P.heap[k]? := fun u0 u1 u2 u3 k hk=>by
    have e1:k≠Nr:=by omega
    rw [Below.heap_setCell _ ⟨Nr,3,none⟩ _ _ e1,Below.heap_setCell _ ⟨Nr,2,none⟩ _ _ e1,Below.heap_setCell _ ⟨Nr,1,none⟩ _ _ e1,Below.heap_setCell _ ⟨Nr,0,none⟩ _ _ e1]
   have hgv:=hMT.out.gives hTW.out hcW.out (fun k hk=>hkp (.string f.name) (.slice Am np Cm) (.int .i64 f.ret) (.slice A nl C) k hk)
   exact⟨_,_,rfl,hgv.1.mono hws,hgv.2.mono hws,hfin⟩
end Go.Proofs.YtamjcafjdioidaaGreat
