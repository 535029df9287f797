/- Texts of the chain, without what is not wanted: RfI. No condition but sizes. -/
import Derived.Test.YtamjcafjdioidaaGreatUw19
set_option linter.unusedVariables false
set_option linter.unusedSimpArgs false
set_option maxRecDepth 100000
set_option maxHeartbeats 12800000
namespace Go.Proofs.YtamjcafjdioidaaGreat
open Go.RowKit
theorem rwithout17_any (f : Fun) (gl : List Int) (gone : List Bool) (hgn : gone.length = f.blocks.length) (hgg : ∀ (k : Nat) g, gone[k]? = some g → decide ((k : Int) ∈ gl) = g) (hwf : ∀ l, l ∈ f.blocks → ∀ x, x ∈ l → ∀ t, t ∈ x.to → 0 ≤ t ∧ t < f.blocks.length) (Ag : Option Addr) (Cg : Nat) (c1 d1 : Value) (w : World) (B : Nat) (hB : B ≤ w.heap.size) (hf : RFun.rep w B [.string f.name, c1, .int .i64 f.ret, d1] f) (hs : Zo f) (hg : OwnI w 0 (.slice Ag gl.length Cg) gl) (hgl : gl.length ≤ 4000000) :
  Calls Tryz.prog 72 #[f.v c1 d1, .slice Ag gl.length Cg] w (GivesF f (Yn gone f.blocks) w):=by
 obtain⟨ng,hng⟩:=Jn (gl.length)
 rw [←hng.out]
 refine hd4 hg hgn hgg hwf ?_;clear hg hgn hgg hwf;intro hg hgn hgg hwf
 obtain⟨-, -, -, -, -,hret,hnm⟩:=id hf
 obtain⟨hp,hb⟩:=Yk (RFun.later hf (Below.refl _ _) hB)
 obtain⟨A1,k1,h1, -, -⟩:=Rp.slice1_open hp
 obtain⟨A2,k2,h2,hm2, -⟩:=Rp.slice1_open hb
 cases h1;cases h2
 clear hp hb hm2
 obtain⟨n,hn⟩:=Jn (f.blocks.length)
 obtain⟨np,hnp⟩:∃n,Hid (n=f.params.length):=⟨_,hide rfl⟩
 have hnle:n≤2000000:=by rw [hn.out];exact hs.blocks
 rw [←hn.out,←hnp.out] at hf⊢
 obtain⟨W,hW,hwW,hWs,hx1,hx2⟩:=Ql w #[.string f.name, .slice A1 np k1, .int .i64 f.ret, .slice A2 n k2] #[.string ⟨#[]⟩, .slice none 0 0, .int .i64 0, .slice none 0 0] 32 32
 obtain⟨Nr,hNr⟩:=Jn (w.heap.size+1)
 have hR0:W.heap[Nr]? = some (.cells #[.string ⟨#[]⟩, .slice none 0 0, .int .i64 0, .slice none 0 0] 32 (0,0)):=by
  rw [←hW,hNr.out]
  have:=Yu (w.alloc (.cells #[.string f.name, .slice A1 np k1, .int .i64 f.ret, .slice A2 n k2] 32)) (.cells #[.string ⟨#[]⟩, .slice none 0 0, .int .i64 0, .slice none 0 0] 32)
  simpa using this
 have hself:=Below.refl W.heap.size W
 have q0:=hx1 0 _ rfl W hself
 have q1:=hx1 1 _ rfl W hself
 have q2:=hx1 2 _ rfl W hself
 have q3:=hx1 3 _ rfl W hself
 have hNrW:Nr<W.heap.size:=(Array.getElem?_eq_some_iff.1 hR0).1
 have hNrw:w.heap.size≤Nr:=by have:=hNr.out;omega
 have hws:w.heap.size≤W.heap.size:=hwW.size
 have cC:=hide (Qp f (.slice A1 np k1) (.slice A2 n k2) W B (by omega) (RFun.later hf (hwW.mono hB) (Nat.le_refl _)) hs)
 refine hd8 hR0 hs hf hwW hWs hW hret hnm ?_;clear hR0 hs hf hwW hWs hW hret hnm;intro hR0 hs hf hwW hWs hW hret hnm
 clear hx1 hx2
 go_enter Tryz.func72,Tryz.ntmps72
 go_upto_region 1 with(fail)
 rw [hW.out,←hNr.out]
 go_wp2_with (fail)
 refine cC.out.mono ?_
 rintro e V ⟨c,d,L,rfl,hOI,hPL,hOK,hL0,hbV⟩
 obtain⟨Am,Cm,hcm⟩:=Yd hOI.row
 subst hcm
 obtain⟨Ad,Cd,hdm⟩:=hOK.form
 subst hdm
 rw [←hnp.out] at hOI hPL⊢
 rw [←hn.out] at hOK⊢
 obtain⟨X,hX⟩:∃X,Hid (V.alloc (.cells #[.string f.name, .slice Am np Cm, .int .i64 f.ret, .slice Ad n Cd] 32)=X):=⟨_,hide rfl⟩
 obtain⟨hM0,hWX,hXs⟩:=Yci hOI hPL hOK hL0 hbV hX.out.symm hret.out hnm.out
 obtain⟨N,hN⟩:=Jn (V.heap.size)
 have hNW:W.heap.size≤N:=by rw [hN.out];exact hbV.size
 rw [←hN.out] at hM0
 have hT0:Hid (∀k,(fun k=>L≤k∧k<N) k→W.heap.size≤k):=hide (fun k hk=>by have:=hk.1;omega)
 have hcW:Hid (∀k,(Value.slice Am np Cm).ownBlock=some k→W.heap.size≤k):=hide (fun k hk=>(Ya hOI.row hk).1)
 have hselfX:=Below.refl X.heap.size X
 refine hd4 hM0 hbV hXs hL0 ?_;clear hM0 hbV hXs hL0;intro hM0 hbV hXs hL0
 clear hOI hPL hOK q0 q1 q2 q3 cC hself
 go_upto_region 2 with(fail)
 rw [hX.out,←hN.out]
 clear hX
 obtain⟨p0,hp0,hp1,hp2,hp3⟩:=Yh cinfo_Block
 refine hd4 hp0 hp1 hp2 hp3 ?_;clear hp0 hp1 hp2 hp3;intro hp0 hp1 hp2 hp3
 obtain⟨T0,hTe⟩:∃T0:Nat→Prop,Hid (T0=fun k=>L≤k∧k<N):=⟨_,hide rfl⟩
 rw [←hTe.out] at hM0
 replace hT0:Hid (∀k,T0 k→W.heap.size≤k):=hide (fun k hk=>hT0.out k (by rw [hTe.out] at hk;exact hk))
 have hNX:N<X.heap.size:=hM0.out.lt
 have hT0lt:Hid (∀k,T0 k→k<X.heap.size):=hide (fun k hk=>by rw [hTe.out] at hk;have:=hk.2;omega)
 obtain⟨xs,ess,hk,hT⟩:=hM0.out.tree
 have c3o:∀w',Only T0 X.heap.size X w'→w'.cell? ⟨N,3,none⟩=some (.slice Ad n Cd):=Yx (Yb hM0.out.box 3 rfl) hNX hM0.out.out
 have hasC:Hid (∀(k:Nat) g,gone[k]? = some g→∀w',Only T0 X.heap.size X w'→Calls Tryz.prog 83 #[.slice Ag ng Cg, .int .i64 k] w' fun e w''=>e = .returned (.bool g)∧w''=w'):=hide (fun k g hkg w' h9=>by
  have h8:OwnI w' 0 (.slice Ag gl.length Cg) gl:=hg.out.kept fun j _ hj=>by
   rw [h9.block j (by have:=hWX.size;omega) (fun e=>by have:=hT0.out j e;omega)]
   exact(hwW.out.trans (hWX.mono hws)).block j hj
  have h7:=rhas_any Ag Cg gl k w' 0 hgl h8
  rw [hgg.out k g hkg,←hng.out] at h7
  exact h7)
 have hk0:Hid (Yq X 0 (.slice Ad n Cd) (renB gone f.blocks 0) xs ess):=hide (by rw [renB_zero];exact hk)
 have hl1:Hid ((0:Nat)=Ys gone 0):=hide (by simp [Ys])
 have hr0:Hid (X.ownsRow X.heap.size 41 1 (.slice none 0 0) (Ys gone 0) ((Z1 gone 0).map fun k=>xs.getD k (.slice none 0 0))):=hide ⟨by simp [Z1,Ys], .inl ⟨rfl,by simp [Ys]⟩⟩
 have hon0:Only T0 X.heap.size X X:=Only.refl _ _ _
 refine hd2 hk hT ?_;clear hk hT;intro hk hT
 clear hselfX
 go_wp2
 go_loopw [6,7] (fun s6 s wr=>∃(b:Nat) (A:Option Addr) (C:Nat),s6 = .slice A (Ys gone b) C∧s = .int .i64 b∧b≤n∧Hid (Yq wr 0 (.slice Ad n Cd) (renB gone f.blocks b) xs ess)∧Hid (wr.ownsRow X.heap.size 41 1 (.slice A (Ys gone b) C) (Ys gone b) ((Z1 gone b).map fun k=>xs.getD k (.slice none 0 0)))∧Only T0 X.heap.size X wr) (fun _ s _=>n - (intOf s).toNat)
 case atStart=>exact⟨0,none,0,by rw [←hl1.out],rfl,Nat.zero_le _,hk0,hr0,hon0⟩
 case round =>
  clear hk0 hr0 hon0
  rename World=>V2
  obtain⟨b,A,C,rfl,rfl,hb,hkb,hrb,hon⟩:=hrel
  have hV2s:=hon.size
  have c3V2:=c3o V2 hon
  by_cases hltb:b<n
  ·have hbi : (b : Int) < (n : Int) := by omega
   obtain⟨gb,hgb⟩:=Yf (l:=gone) (k:=b) (by rw [hgn.out,←hn.out];exact hltb)
   obtain⟨l,hl⟩:=Yf (l:=f.blocks) (k:=b) (by rw [←hn.out];exact hltb)
   have hwl:=hide (hwf.out l (Jm hl.out))
   obtain⟨x,es,hx,he,hcd⟩:=hkb.out.row_at (renB_at (gone:=gone) hl.out (Nat.le_refl b))
   obtain⟨gd,CD9,hgdf, -,hgd⟩:=hkb.out.row.form (by rw [Yav,←hn.out];omega)
   rw [Yav,←hn.out] at hgdf
   have hAd:=(Value.slice.inj hgdf).1
   subst hAd
   clear hgdf CD9
   obtain⟨Ax,Cx,hxf⟩:=Yd hcd.row
   subst hxf
   obtain⟨m,hm⟩:=Jn (l.length)
   rw [←hm.out] at hx
   have hmb:m≤2000000:=by rw [hm.out];exact(hs.out.code l (Jm hl.out)).1
   have hlenb:=leftN_le gone b
   have hkn:=hide (keptN_next hgb.out)
   have hln:=hide (Ybg hgb.out)
   have hHas:=hide (hasC.out b gb hgb.out V2 hon)
   refine hd4 hx he hcd hgb ?_;clear hx he hcd hgb;intro hx he hcd hgb
   go_wp2_with (fail)
   refine hHas.out.mono ?_
   rintro e w9 ⟨rfl,hw9⟩
   obtain rfl:V2=w9:=hw9.symm
   clear hHas hw9
   cases gb with
   | true =>
    have hk2:Hid (Yq V2 0 (.slice (some ⟨gd,0,none⟩) n Cd) (renB gone f.blocks (b+1)) xs ess):=hide (by rw [←renB_gone hgb.out];exact hkb.out)
    have hl2:Hid (Ys gone (b+1)=Ys gone b):=hide (by rw [hln.out];rfl)
    have hr2:Hid (V2.ownsRow X.heap.size 41 1 (.slice A (Ys gone (b+1)) C) (Ys gone (b+1)) ((Z1 gone (b+1)).map fun k=>xs.getD k (.slice none 0 0))):=hide (by
     rw [hl2.out,hkn.out]
     simpa using hrb.out)
    go_wp2
    go_roundw
    case rel=>exact⟨b+1,A,C,by rw [hl2.out],by go_num,hltb,hk2,hr2,hon⟩
    case measure=>simp [intOf];omega
   | false =>
    have hk3:Hid (Yq V2 0 (.slice (some ⟨gd,0,none⟩) n Cd) ((renB gone f.blocks b).set b (renL gone l 0)) xs ess):=hide (by
     rw [renL_zero,Qo (renB_at hl.out (Nat.le_refl b))]
     exact hkb.out)
    have hrX0:Hid (V2.ownsRow X.heap.size 41 1 (.slice A (Ys gone b) C) (Ys gone b) ((Z1 gone b).map fun k=>xs.getD k (.slice none 0 0))):=hrb
    clear c3V2
    go_wp2
    go_loopw [9] (fun s wr=>∃i:Nat,s = .int .i64 i∧i≤m∧Hid (Yq wr 0 (.slice (some ⟨gd,0,none⟩) n Cd) ((renB gone f.blocks b).set b (renL gone l i)) xs ess)∧Hid (wr.ownsRow X.heap.size 41 1 (.slice A (Ys gone b) C) (Ys gone b) ((Z1 gone b).map fun k=>xs.getD k (.slice none 0 0)))∧Only T0 X.heap.size X wr) (fun s _=>m - (intOf s).toNat)
    case atStart=>exact⟨0,rfl,Nat.zero_le _,hk3,hrX0,hon⟩
    case round =>
     clear hk3 hrX0 hon hkb hrb hV2s
     rename World=>V3
     obtain⟨i,rfl,hi3,hki,hri3,honi⟩:=hrel
     have hV3s:=honi.size
     have c3V3:=c3o V3 honi
     have hxcV3:=hki.out.blk_cell hx.out
     by_cases hlti:i<m
     ·have hii3 : (i : Int) < (m : Int) := by omega
      obtain⟨ins,hins⟩:=Yf (l:=l) (k:=i) (by rw [←hm.out];exact hlti)
      have hbset:Hid (((renB gone f.blocks b).set b (renL gone l i))[b]? = some (renL gone l i)):=hide (by rw [Jf (by rw [Yav,←hn.out];exact hltb)])
      have hcdi:=hki.out.inn b _ _ es hx.out hbset.out he.out
      obtain⟨gc,CX9,hgcf, -,hgcl⟩:=hcdi.row.form (by rw [renL_len,←hm.out];omega)
      rw [renL_len,←hm.out] at hgcf
      have hAx:=(Value.slice.inj hgcf).1
      subst hAx
      clear hgcf CX9
      have hri:Hid ((renL gone l i)[i]? = some ins):=hide (renL_at hins.out)
      obtain⟨ca,ct,hei,hva,hvt,hok⟩:=hcdi.ins_at hri.out
      obtain⟨At,Ct,hct⟩:=Yd hvt.row
      subst hct
      obtain⟨nt,hnt⟩:=Jn (ins.to.length)
      rw [←hnt.out] at hei
      have hntb:nt≤2000000:=by rw [hnt.out];exact((hs.out.code l (Jm hl.out)).2 ins (Jm hins.out)).2
      have e6:=hcdi.cell_at hri.out hei (j:=6) rfl
      have hki0:Hid (Yq V3 0 (.slice (some ⟨gd,0,none⟩) n Cd) ((renB gone f.blocks b).set b ((renL gone l i).set i (renX gone ins 0))) xs ess):=hide (by
       rw [renX_zero,Qo hri.out]
       exact hki.out)
      refine hd5 hei hva hvt hok hcdi ?_;clear hei hva hvt hok hcdi;intro hei hva hvt hok hcdi
      go_wp2
      go_loopw [11] (fun s wr=>∃k:Nat,s = .int .i64 k∧k≤nt∧Hid (Yq wr 0 (.slice (some ⟨gd,0,none⟩) n Cd) ((renB gone f.blocks b).set b ((renL gone l i).set i (renX gone ins k))) xs ess)∧Hid (wr.ownsRow X.heap.size 41 1 (.slice A (Ys gone b) C) (Ys gone b) ((Z1 gone b).map fun k=>xs.getD k (.slice none 0 0)))∧Only T0 X.heap.size X wr) (fun s _=>nt - (intOf s).toNat)
      case atStart=>exact⟨0,rfl,Nat.zero_le _,hki0,hri3,honi⟩
      case round =>
       clear hki0 e6 c3V3 hxcV3 honi hki hri3 hV3s
       rename World=>V4
       obtain⟨k,rfl,hk4,hkk,hri4,hon4⟩:=hrel
       have hV4s:=hon4.size
       by_cases hltk:k<nt
       ·have hkk3 : (k : Int) < (nt : Int) := by omega
        obtain⟨t,ht⟩:=Yf (l:=ins.to) (k:=k) (by rw [←hnt.out];exact hltk)
        obtain⟨tn,htn,htnn⟩:∃tn:Nat,t=(tn:Int)∧tn<n:=by
         have h9:=hwl.out ins (Jm hins.out) t (Jm ht.out)
         obtain⟨tn,e⟩:=Int.eq_ofNat_of_zero_le h9.1
         exact⟨tn,e,by have:=hn.out;have:=h9.2;omega⟩
        subst htn
        have hbset4:Hid (((renB gone f.blocks b).set b ((renL gone l i).set i (renX gone ins k)))[b]? = some ((renL gone l i).set i (renX gone ins k))):=hide (by rw [Jf (by rw [Yav,←hn.out];exact hltb)])
        have hcd4:=hkk.out.inn b _ _ es hx.out hbset4.out he.out
        have hri5:Hid (((renL gone l i).set i (renX gone ins k))[i]? = some (renX gone ins k)):=hide (by rw [Jf (by rw [renL_len,←hm.out];exact hlti)])
        obtain⟨ca4,ct4,hei4,hva4,hvt4,hok4⟩:=hcd4.ins_at hri5.out
        rw [hei.out] at hei4
        cases hei4
        obtain⟨gt,CT9,htf, -,hgtl⟩:=hvt4.row.form (by rw [renX_to,←hnt.out];omega)
        rw [renX_to,←hnt.out] at htf
        have hAt:=(Value.slice.inj htf).1
        subst hAt
        clear htf CT9
        have hTgt:T0 gt:=hT.out gt (.inr (.inr ⟨es,_,Jm he.out,Jm hei.out, .inr rfl⟩))
        have q1:V4.cell? ⟨gt,k,none⟩=some (.int .i64 (tn:Int)):=by
         have hvr:=hvt4.row
         rw [renX_to,←hnt.out] at hvr
         rw [World.ownsRow.cellAt hvr k (by omega),List.getElem?_map,renX_at ht.out]
         rfl
        have q2:V4.frozen? ⟨gt,k,none⟩=false:=Zj hvt4.row k
        have hren:Hid (renT gone (tn:Int)=(Ys gone tn:Int)):=hide (by unfold renT;rw [Int.toNat_natCast])
        have hI:Hid (I64 (Ys gone tn:Int)):=hide (by have:=leftN_le gone tn;exact Ybz (by omega) (by omega))
        have hk5:Hid (Yq (V4.setCell ⟨gt,k,none⟩ (.int .i64 (Ys gone tn:Int))) 0 (.slice (some ⟨gd,0,none⟩) n Cd) ((renB gone f.blocks b).set b ((renL gone l i).set i (renX gone ins (k+1)))) xs ess):=hide (by
         have h9:=hkk.out.put_to (z:=(Ys gone tn:Int)) hbset4.out he.out hri5.out hei.out (by rw [renX_to,←hnt.out];exact hltk) hI.out
         rw [List.set_set,List.set_set,←hren.out,renX_next ht.out] at h9
         rw [←hren.out]
         exact h9)
        have hri6:Hid ((V4.setCell ⟨gt,k,none⟩ (.int .i64 (Ys gone tn:Int))).ownsRow X.heap.size 41 1 (.slice A (Ys gone b) C) (Ys gone b) ((Z1 gone b).map fun k=>xs.getD k (.slice none 0 0))):=hide (Yc hri4.out fun j hj=>Below.heap_setCell V4 ⟨gt,k,none⟩ _ j (fun e=>by have e':j=gt:=e;have:=hT0lt.out gt hTgt;have:=(Ya hri4.out hj).1;omega))
        have hon5:Only T0 X.heap.size X (V4.setCell ⟨gt,k,none⟩ (.int .i64 (Ys gone tn:Int))):=hon4.setCell (p:=⟨gt,k,none⟩) (.inl hTgt) _
        have hz0:Hid ((Ys gone 0:Int)=0):=hide (by rw [←hl1.out];rfl)
        refine hd4 hva4 hvt4 hok4 hcd4 ?_;clear hva4 hvt4 hok4 hcd4;intro hva4 hvt4 hok4 hcd4
        go_wp2
        go_loopw [12,13] (fun s12 s wr=>∃x:Nat,s12 = .int .i64 (Ys gone x:Int)∧s = .int .i64 x∧x≤tn∧wr=V4) (fun _ s _=>tn - (intOf s).toNat)
        case atStart=>exact⟨0,by rw [hz0.out],rfl,Nat.zero_le _,rfl⟩
        case round =>
         obtain⟨y,rfl,rfl,hy,rfl⟩:=hrel
         by_cases hlty:y<tn
         ·have hyi : (y : Int) < (tn : Int) := by omega
          obtain⟨gy,hgy⟩:=Yf (l:=gone) (k:=y) (by rw [hgn.out,←hn.out];omega)
          have hHas:=hide (hasC.out y gy hgy.out _ hon4)
          have hlny:=hide (Ybg hgy.out)
          have hley:=leftN_le gone y
          replace hgy:=hide hgy
          go_wp2_with (fail)
          refine hHas.out.mono ?_
          rintro e w9 ⟨rfl,rfl⟩
          clear hHas
          cases gy with
          | true =>
           have hl2:Hid (Ys gone (y+1)=Ys gone y):=hide (by rw [hlny.out];rfl)
           go_wp2
           go_roundw
           case rel=>exact⟨y+1,by rw [hl2.out],by go_num,hlty,by first|trivial|rfl⟩
           case measure=>simp [intOf];omega
          | false =>
           have hl2:Hid (Ys gone (y+1)=Ys gone y+1):=hide (by rw [hlny.out];rfl)
           go_wp2
           go_roundw
           case rel=>exact⟨y+1,by rw [hl2.out];go_num,by go_num,hlty,by first|trivial|rfl⟩
           case measure=>simp [intOf];omega
         ·obtain rfl : tn = y := by omega
          go_wp2
          go_roundw
          case rel=>exact⟨k+1,by go_num,hltk,hk5,hri6,hon5⟩
          case measure=>simp [intOf];omega
       ·obtain rfl : nt = k := by omega
        have hk5:Hid (Yq V4 0 (.slice (some ⟨gd,0,none⟩) n Cd) ((renB gone f.blocks b).set b (renL gone l (i+1))) xs ess):=hide (by
         have h9:=hkk.out
         rw [hnt.out,renX_end,renL_next hins.out] at h9
         exact h9)
        go_wp2
        go_roundw
        case rel=>exact⟨i+1,by go_num,hlti,hk5,hri4,hon4⟩
        case measure=>simp [intOf];omega
     ·obtain rfl : m = i := by omega
      have hk5:Hid (Yq V3 0 (.slice (some ⟨gd,0,none⟩) n Cd) (renB gone f.blocks (b+1)) xs ess):=hide (by
       have h9:=hki.out
       rw [hm.out,renL_end,renB_next hl.out hgb.out] at h9
       exact h9)
      have hl2:Hid (Ys gone (b+1)=Ys gone b+1):=hide (by rw [hln.out];rfl)
      have hxg:Hid (xs.getD b (.slice none 0 0) = .slice Ax m Cx):=hide (by rw [Jq,hx.out];rfl)
      have hrr3:=hri3
      go_wp2_with (first
       | (at_builtin
          refine wpList_append_own _ rfl (.tmp 74) (.tmp 80) _ rfl X.heap.size 41 p0 _ 1 24 Tryz.underlying30 hp0.out hp1.out hp2.out hp3.out rfl (by omega) (.slice A (Ys gone b) C) _ _ rfl (hrr3.out.alloc _) ⟨V3.heap.size,0,none⟩ 1 1 [.slice Ax m Cx] rfl rfl ?c1 ?c2 ?c3 ?c4 ?c5 ?_
          case c1=>exact World.news_of_block (cs := #[.slice Ax m Cx]) (t := 41) (fr:=(0,0)) (heap_alloc_new V3 _)
          case c2=>simp [Value.oneCell']
          case c3=>unfold maxLen;omega
          case c4=>omega
          case c5=>first|(simp;omega)|simp|omega
          intro v9 w9 hown9 hg9 _
          have hon9:Only T0 X.heap.size X w9:=(honi.alloc hV3s _).trans ⟨hg9.os,hg9.tape,hg9.output,hg9.size,fun k hk hs9=>hg9.block k (by simp;omega) (fun e=>by have:=(Ya hrr3.out e.symm).1;omega)⟩
          have hk9:Hid (Yq w9 0 (.slice (some ⟨gd,0,none⟩) n Cd) (renB gone f.blocks (b+1)) xs ess):=hide (hk5.out.tb_kept fun k h1 h2=>(hg9.block k (by simp;omega) (fun e=>by have:=(Ya hrr3.out e.symm).1;have:=hT0lt.out k (hT.out k h2);omega)).trans (Below.heap_alloc _ _ _ h1))
          obtain⟨A8,C8,hv8⟩:=Yd hown9
          subst hv8
          have hr9:Hid (w9.ownsRow X.heap.size 41 1 (.slice A8 (Ys gone (b+1)) C8) (Ys gone (b+1)) ((Z1 gone (b+1)).map fun k=>xs.getD k (.slice none 0 0))):=hide (by
           rw [hl2.out,hkn.out,List.map_append]
           simp only [Bool.false_eq_true,if_false,List.map_cons,List.map_nil,hxg.out]
           exact hown9)
          replace hown9:=hide hown9
          replace hg9:=hide hg9))
      go_roundw
      case rel=>exact⟨b+1,A8,C8,by rw [hl2.out],by go_num,hltb,hk9,hr9,hon9⟩
      case measure=>simp [intOf];omega
  ·obtain rfl : n = b := by omega
   have n4:V2.frozen? ⟨N,3,none⟩=false:=by
    have hb2:=(hon.block N hNX hM0.out.out).trans hM0.out.box
    simp [World.frozen?,hb2]
   have hbV2:Below W.heap.size W V2:=hWX.trans (hon.to_below (B':=W.heap.size) (fun k hk=>hT0.out k hk) hWX.size)
   obtain⟨P,hP⟩:∃P,Hid (V2.setCell ⟨N,3,none⟩ (.slice A (Ys gone n) C)=P):=⟨_,hide rfl⟩
   have hbP:Below W.heap.size W P:=hP.out▸hbV2.setCell (p:=⟨N,3,none⟩) hNW _
   obtain⟨nl,hnl⟩:=Jn (Ys gone n)
   have hMT:Hid (MF P (fun k=>T0 k∨X.heap.size≤k) N (Ye f (Yn gone f.blocks)) (.slice Am np Cm) (.slice A nl C)):=hide (by
    rw [←hP.out,hnl.out]
    have h1:=hrb.out
    have hkl:(Z1 gone n).length=Ys gone n:=keptN_len (by rw [hgn.out,hn.out];exact Nat.le_refl _)
    rw [←hkl] at h1
    have h2:=hkb.out.pick (v' := .slice A (Z1 gone n).length C) (keptN_nodup gone n) (fun k hk=>by rw [Yav,←hn.out];exact keptN_lt hk) (Zf h1 (Nat.zero_le _))
    have h3:(Z1 gone n).map (fun b=>(renB gone f.blocks n).getD b [])=Yn gone f.blocks:=by rw [hn.out];exact renB_end
    rw [h3,hkl] at h2
    exact(hM0.out.store_d (T':=fun k=>T0 k∨X.heap.size≤k) hon h2 (fun k hk=>by
     rcases hk with h9|⟨y,hy,h9⟩|⟨a,z,ha,hz,h9⟩
     ·right
      have:=(Ya h1 (by rw [hkl];exact h9)).1
      omega
     ·obtain ⟨q, hq, rfl⟩ := List.mem_map.1 hy
      have hq2:q<xs.length:=by rw [hk.out.lenx,←hn.out];exact keptN_lt hq
      exact .inl (hT.out k (.inr (.inl ⟨_,Jm (Zt hq2),h9⟩)))
     ·obtain ⟨q, hq, rfl⟩ := List.mem_map.1 ha
      have hq2:q<ess.length:=by rw [hk.out.lene,←hn.out];exact keptN_lt hq
      exact .inl (hT.out k (.inr (.inr ⟨_,z,Jm (Zt hq2),hz,h9⟩)))) (fun k hk=>hk)).1)
   have hTW:Hid (∀k,(fun k=>T0 k∨X.heap.size≤k) k→W.heap.size≤k):=hide (fun k hk=>hk.elim (fun h9=>hT0.out k h9) (fun h9=>by have:=hWX.size;omega))
   have n3:=c3V2
   clear c3V2
   go_upto_region 25 with(fail)
   rw [hP.out]
   rw [←hnl.out] at hP
   have hRV:=(hbP.block Nr hNrW).trans hR0.out
   obtain⟨n0,n1,n2,n3⟩:=bx4 hRV
   obtain⟨g0,g1,g2,g3⟩:=bf4 hRV
   have v0:P.cell? ⟨N,0,none⟩=some (.string f.name):=Yb hMT.out.box 0 rfl
   have v1:=Yb hMT.out.box 1 rfl
   have v2:P.cell? ⟨N,2,none⟩=some (.int .i64 f.ret):=Yb hMT.out.box 2 rfl
   have v3:=Yb hMT.out.box 3 rfl
   replace hRV:=hide hRV
   go_wp2
   refine bodyPost_ret (v:=f.v (.slice Am np Cm) (.slice A nl C)) (by simp [results,Tryz.results72,go_sem,n0,n1,n2,n3,g0,g1,g2,g3]) rfl ?_
   have hwV:=hwW.out.trans (hbP.mono hws)
   have hfin:=(((hwV.setCell (p:=⟨Nr,0,none⟩) hNrw (.string f.name)).setCell (p:=⟨Nr,1,none⟩) hNrw (.slice Am np Cm)).setCell (p:=⟨Nr,2,none⟩) hNrw (.int .i64 f.ret)).setCell (p:=⟨Nr,3,none⟩) hNrw (.slice A nl C)
   have hkp:∀(u0 u1 u2 u3:Value) (k:Nat),W.heap.size≤k→((((P.setCell ⟨Nr,0,none⟩ u0).setCell ⟨Nr,1,none⟩ u1).setCell ⟨Nr,2,none⟩ u2).setCell ⟨Nr,3,none⟩ u3).heap[k]? = P.heap[k]? := fun u0 u1 u2 u3 k hk=>by
    have e1:k≠Nr:=by omega
    rw [Below.heap_setCell _ ⟨Nr,3,none⟩ _ _ e1,Below.heap_setCell _ ⟨Nr,2,none⟩ _ _ e1,Below.heap_setCell _ ⟨Nr,1,none⟩ _ _ e1,Below.heap_setCell _ ⟨Nr,0,none⟩ _ _ e1]
   have hgv:=hMT.out.gives hTW.out hcW.out (fun k hk=>hkp (.string f.name) (.slice Am np Cm) (.int .i64 f.ret) (.slice A nl C) k hk)
   exact⟨_,_,rfl,hgv.1.mono hws,hgv.2.mono hws,hfin⟩
end Go.Proofs.YtamjcafjdioidaaGreat
