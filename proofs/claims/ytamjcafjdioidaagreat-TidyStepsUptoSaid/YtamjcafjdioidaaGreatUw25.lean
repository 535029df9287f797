/- Texts of the chain, without what is not wanted: RfN, RfO, TdW, TdSc. No condition but sizes. -/
import Derived.Test.YtamjcafjdioidaaGreatUw22
import Derived.Test.YtamjcafjdioidaaGreatUw23
import Derived.Test.YtamjcafjdioidaaGreatUw24
set_option linter.unusedVariables false
set_option linter.unusedSimpArgs false
set_option maxRecDepth 100000
set_option maxHeartbeats 12800000
namespace Go.Proofs.YtamjcafjdioidaaGreat
open Go.RowKit
def gl17 (R:List Bool) (n:Nat):List Int:=((List.range n).filter fun b => !(R.getD b false)).map fun b:Nat=>(b:Int)
theorem gl17_zero (R:List Bool):gl17 R 0 = []:=rfl
theorem gl17_next {R:List Bool} {i:Nat} {r:Bool} (h:R[i]? = some r):gl17 R (i+1)=gl17 R i++if r then [] else [(i:Int)]:=by
 unfold gl17
 rw [List.range_succ,List.filter_append,List.map_append,List.filter_cons,Jq,h]
 cases r<;>rfl
theorem gl17_len (R:List Bool) (n:Nat):(gl17 R n).length≤n:=by
 unfold gl17
 rw [List.length_map]
 have:=List.length_filter_le (fun b => !(R.getD b false)) (List.range n)
 rwa [List.length_range] at this
theorem gl17_mem {R:List Bool} {n k:Nat}:(k:Int)∈gl17 R n↔k<n∧R.getD k false=false:=by
 unfold gl17
 rw [List.mem_map]
 constructor
 ·rintro ⟨b, hb, e⟩
  obtain⟨h1,h2⟩:=List.mem_filter.1 hb
  have:b=k:=by omega
  subst this
  exact⟨List.mem_range.1 h1,by simpa using h2⟩
 ·rintro ⟨h1, h2⟩
  exact⟨k,List.mem_filter.2 ⟨List.mem_range.2 h1,by rw [h2];rfl⟩,rfl⟩
def Yb4 (R:List Bool) (bs:List (List Ins)):Option (List (List Ins)) :=
 if 0<(gl17 R bs.length).length then some (Yn (R.map fun r => !r) (bs.map fun l=>l.map (Zg (gl17 R bs.length))))
 else((List.range bs.length).find? (mgB (Zw (Yo bs) bs.length) bs)).map fun a=>Yn ((List.replicate bs.length false).set (mgTo bs a) true) ((Zb bs a (mgTo bs a)).map fun l=>l.map (movR (mgTo bs a) a))
theorem lostI_to {g:List Int} {x:Ins} {t:Int} (h:t∈(Zg g x).to):t∈x.to:=by
 unfold Zg at h
 split at h
 ·obtain ⟨p, hp, rfl⟩ := List.mem_map.1 (show t ∈ (lostP g x).map Prod.fst from h)
  exact(List.of_mem_zip (List.mem_filter.1 hp).1).1
 ·exact h
theorem lostI_len {g:List Int} {x:Ins}:(Zg g x).args.length≤x.args.length∧(Zg g x).to.length≤x.to.length:=by
 unfold Zg
 split
 ·have h1 : (lostP g x).length ≤ (Z0 x).length := List.length_filter_le _ _
  have h2:(Z0 x).length≤x.args.length∧(Z0 x).length≤x.to.length:=by
   unfold Z0
   rw [List.length_zip]
   omega
  unfold Qy
  simp only [List.length_map]
  omega
 ·exact⟨Nat.le_refl _,Nat.le_refl _⟩
theorem small_map {f:Fun} {bs:List (List Ins)} (hs:Zo (Ye f bs)) {g:Ins→Ins} (hg:∀l,l∈bs→∀x,x∈l→(g x).args.length≤2000000∧(g x).to.length≤2000000) (k:Nat):Zo (Ye f (mapB g bs k)):=by
 refine⟨hs.params,by show(mapB g bs k).length≤_;rw [mapB_len];exact hs.blocks,fun l hl => ?_⟩
 rcases List.mem_append.1 (show l∈(bs.take k).map (fun l=>l.map g)++bs.drop k from hl) with h|h
 ·obtain ⟨m, hm, rfl⟩ := List.mem_map.1 h
  have hmb:=List.mem_of_mem_take hm
  refine⟨by rw [List.length_map];exact(hs.code m hmb).1,fun x hx => ?_⟩
  obtain⟨y,hy,rfl⟩:=List.mem_map.1 hx
  exact hg m hmb y hy
 ·exact hs.code l (List.mem_of_mem_drop h)
def RdX (N:Nat) (w:World) (f:Fun) (bs:List (List Ins)) (c d:Value):Prop:=∀w',Only (fun k=>k=N) w.heap.size w w'→RFun.rep w' w'.heap.size [.string f.name,c, .int .i64 f.ret,d] (Ye f bs)
theorem RdX.own {N:Nat} {w:World} {f:Fun} {bs:List (List Ins)} {c d:Value} {B:Nat} {cs:Array Value} (h1:OwnI w B c f.params) (h2:OwnK w B d bs) (hN:w.heap[N]? = some (.cells cs 32 (0,0))) (hr:I64 f.ret) (hn:f.name.size≤maxLen):RdX N w f bs c d:=fun w' h=>by
 have ht:∃c,w.heap[N]? = some (.cells c 32 (0,0)):=⟨cs,hN⟩
 have hI:OwnI w' B c f.params:=⟨Yc h1.row fun j hj=>h.block j (Ya h1.row hj).2.1 (Z7 (Ya h1.row hj).2.2 ht (by decide)),h1.ok⟩
 have hK:OwnK w' B d bs:=by
  obtain⟨xs,g1,g2,g3⟩:=h2.body
  refine⟨xs,g1,Yc g2 fun j hj=>h.block j (Ya g2 hj).2.1 (Z7 (Ya g2 hj).2.2 ht (by decide)),fun i x b hx hb => ?_⟩
  obtain⟨ess,q1,q2,q3⟩:=(g3 i x b hx hb).body
  refine⟨ess,q1,Yc q2 fun j hj=>h.block j (Ya q2 hj).2.1 (Z7 (Ya q2 hj).2.2 ht (by decide)),fun q es y hq hy => ?_⟩
  obtain⟨c,d',e1,e2,e3,e4⟩:=q3 q es y hq hy
  exact⟨c,d',e1,⟨Yc e2.row fun j hj=>h.block j (Ya e2.row hj).2.1 (Z7 (Ya e2.row hj).2.2 ht (by decide)),e2.ok⟩,⟨Yc e3.row fun j hj=>h.block j (Ya e3.row hj).2.1 (Z7 (Ya e3.row hj).2.2 ht (by decide)),e3.ok⟩,e4⟩
 exact own_rep hI hK hr hn
theorem rblocks17_any (f : Fun) (R : List Bool) (gR : Nat) (c1 d1 : Value) (w : World) (B : Nat) (hB : B ≤ w.heap.size) (hf : RFun.rep w B [.string f.name, c1, .int .i64 f.ret, d1] f) (hs : Zo f) (hwf : Wf f.blocks) (hRn : R.length = f.blocks.length) (hR : w.ownsRow 0 4 1 (.slice (some ⟨gR, 0, none⟩) f.blocks.length f.blocks.length) f.blocks.length (R.map Value.bool))
  (hjs:∀(a b:Nat),a<f.blocks.length→mgB (Zw (Yo f.blocks) f.blocks.length) f.blocks a=true→b=mgTo f.blocks a→Zo (Ye f ((Zb f.blocks a b).map fun l=>l.map (movR b a)))∧∀l,l∈(Zb f.blocks a b).map (fun l=>l.map (movR b a))→∀x,x∈l→∀t:Int,t∈x.to→0≤t∧t<((Zb f.blocks a b).map (fun l=>l.map (movR b a))).length) :
  Calls Tryz.prog 32 #[f.v c1 d1, .slice (some ⟨gR,0,none⟩) f.blocks.length f.blocks.length] w (MayPost f c1 d1 (Yb4 R f.blocks) w):=by
 obtain⟨-, -, -, -, -,hret,hnm⟩:=id hf
 obtain⟨hp,hb⟩:=Yk (RFun.later hf (Below.refl _ _) hB)
 obtain⟨A1,k1,h1, -, -⟩:=Rp.slice1_open hp
 obtain⟨A2,k2,h2,hm2,gb⟩:=Rp.slice1_open hb
 cases h1;cases h2
 clear hp hb hm2
 obtain⟨n,hn⟩:=Jn (f.blocks.length)
 obtain⟨np,hnp⟩:∃n,Hid (n=f.params.length):=⟨_,hide rfl⟩
 have hnle:n≤2000000:=by rw [hn.out];exact hs.blocks
 rw [←hn.out,←hnp.out] at hf
 rw [←hnp.out]
 rw [←hn.out] at hR hRn gb⊢
 obtain⟨-,hRr⟩:=Yas hR
 obtain⟨res,hres⟩:=Jn (Yb4 R f.blocks)
 rw [←hres.out]
 obtain⟨W,hW,hwW,hWs,hx1,hx2⟩:=Ql w #[.string f.name, .slice A1 np k1, .int .i64 f.ret, .slice A2 n k2] #[.string ⟨#[]⟩, .slice none 0 0, .int .i64 0, .slice none 0 0] 32 32
 obtain⟨Nr,hNr⟩:=Jn (w.heap.size+1)
 have hR0:W.heap[Nr]? = some (.cells #[.string ⟨#[]⟩, .slice none 0 0, .int .i64 0, .slice none 0 0] 32 (0,0)):=by
  rw [←hW,hNr.out]
  have:=Yu (w.alloc (.cells #[.string f.name, .slice A1 np k1, .int .i64 f.ret, .slice A2 n k2] 32)) (.cells #[.string ⟨#[]⟩, .slice none 0 0, .int .i64 0, .slice none 0 0] 32)
  simpa using this
 have hself:=Below.refl W.heap.size W
 have x0:=hx1 0 _ rfl
 have x1:=hx1 1 _ rfl
 have x2:=hx1 2 _ rfl
 have x3:=hx1 3 _ rfl
 have hNrW:Nr<W.heap.size:=(Array.getElem?_eq_some_iff.1 hR0).1
 have hNrw:w.heap.size≤Nr:=by have:=hNr.out;omega
 have hws:w.heap.size≤W.heap.size:=hwW.size
 have hF:Hid (∀w',Below W.heap.size W w'→RFun.rep w' w'.heap.size [.string f.name, .slice A1 np k1, .int .i64 f.ret, .slice A2 n k2] f):=hide (fun w' h=>RFun.later hf ((hwW.trans (h.mono hws)).mono hB) (by have:=h.size;omega))
 have hRw:Hid (∀(k:Nat) r,R[k]? = some r→∀w',Below W.heap.size W w'→w'.cell? ⟨gR,k,none⟩=some (.bool r)):=hide (fun k r hk w' h=>hRr k r hk w' (hwW.trans (h.mono hws)))
 obtain⟨i0,hi0,hz0,hz1,hz2⟩:=Yh Z5
 refine hd4 hi0 hz0 hz1 hz2 ?_;clear hi0 hz0 hz1 hz2;intro hi0 hz0 hz1 hz2
 have hrow0:Hid (OwnI W W.heap.size (.slice none 0 0) (gl17 R 0)):=hide (by rw [gl17_zero];exact OwnI.nil_)
 have hl0:Hid (0=(gl17 R 0).length):=hide rfl
 refine hd12 hR0 hs hf hwW hWs hW hret hnm hwf hRn hR gb ?_;clear hR0 hs hf hwW hWs hW hret hnm hwf hRn hR gb;intro hR0 hs hf hwW hWs hW hret hnm hwf hRn hR gb
 replace hjs:=hide hjs
 clear hx1 hx2 hRr
 go_enter Tryz.func32,Tryz.ntmps32
 go_upto_region 1 with(fail)
 rw [hW.out,←hNr.out]
 go_wp2
 go_loopw [6,7] (fun s6 s wr=>∃(i r:Nat) (A:Option Addr) (C:Nat),s6 = .slice A r C∧s = .int .i64 i∧i≤n∧Hid (r=(gl17 R i).length)∧Hid (OwnI wr W.heap.size (.slice A r C) (gl17 R i))∧Below W.heap.size W wr) (fun _ s _=>n - (intOf s).toNat)
 case atStart=>exact⟨0,0,none,0,rfl,rfl,Nat.zero_le _,hl0,hrow0,hself⟩
 case round =>
  clear hl0 hrow0
  rename World=>V
  obtain⟨i,r,A,C,rfl,rfl,hi,hr,hrow,hbV⟩:=hrel
  have hVs:=hbV.size
  have x3V:=x3 V hbV
  by_cases hlt:i<n
  ·have hii : (i : Int) < (n : Int) := by omega
   obtain⟨rb,hrb⟩:=Yf (l:=R) (k:=i) (by rw [hRn.out];exact hlt)
   have hgR:=hRw.out i rb hrb.out V hbV
   have hnl:=hide (gl17_next hrb.out)
   have hrle:r≤i:=by rw [hr.out];exact gl17_len _ _
   have hi64:Hid (I64 (i:Int)):=hide (Ybz (by omega) (by omega))
   replace hrb:=hide hrb
   cases rb with
   | true =>
    have hnl2:Hid (gl17 R (i+1)=gl17 R i):=hide (by rw [hnl.out];simp)
    have hr2:Hid (r=(gl17 R (i+1)).length):=hide (by rw [hnl2.out];exact hr.out)
    have hrow2:Hid (OwnI V W.heap.size (.slice A r C) (gl17 R (i+1))):=hide (by rw [hnl2.out];exact hrow.out)
    go_wp2
    go_roundw
    case rel=>exact⟨i+1,r,A,C,rfl,by go_num,hlt,hr2,hrow2,hbV⟩
    case measure=>simp [intOf];omega
   | false =>
    have hnl2:Hid (gl17 R (i+1)=gl17 R i ++ [(i:Int)]):=hide (by rw [hnl.out];simp)
    have hr2:Hid (r+1=(gl17 R (i+1)).length):=hide (by rw [hnl2.out,List.length_append,←hr.out];rfl)
    have hrowR:Hid (V.ownsRow W.heap.size 3 1 (.slice A r C) r ((gl17 R i).map fun z=>Value.int .i64 z)):=hide (by have:=hrow.out.row;rwa [←hr.out] at this)
    go_wp2_with (first
     | (at_builtin
        refine wpList_append_own _ rfl (.tmp 26) (.tmp 28) _ rfl W.heap.size 3 i0 _ 1 8 Tryz.underlying29 hi0.out hz0.out hz1.out hz2.out rfl (by omega) (.slice A r C) _ _ rfl (hrowR.out.alloc _) ⟨V.heap.size,0,none⟩ 1 1 [.int .i64 i] rfl rfl ?c1 ?c2 ?c3 ?c4 ?c5 ?_
        case c1=>exact World.news_of_block (cs := #[.int .i64 i]) (t := 3) (fr:=(0,0)) (heap_alloc_new V _)
        case c2=>simp [Value.oneCell']
        case c3=>unfold maxLen;omega
        case c4=>omega
        case c5=>first|(simp;omega)|simp|omega
        intro v2 w2 hown2 hg2 _
        have hbw2:Below W.heap.size W w2:=(hbV.alloc hVs _).grown hg2 (by simp;omega) (fun k hk=>(Ya hrowR.out hk).1)
        obtain⟨A9,C9,hv9⟩:=Yd hown2
        subst hv9
        have hL2:Hid (OwnI w2 W.heap.size (.slice A9 (r+1) C9) (gl17 R (i+1))):=hide (by rw [hnl2.out];exact OwnI.snoc hrow.out.ok hi64.out (by rw [←hr.out];exact hown2))
        replace hown2:=hide hown2
        replace hg2:=hide hg2))
    go_roundw
    case rel=>exact⟨i+1,r+1,A9,C9,rfl,by go_num,hlt,hr2,hL2,hbw2⟩
    case measure=>simp [intOf];omega
  obtain rfl:n=i:=by omega
  obtain⟨gl,hgl⟩:=Jn (gl17 R n)
  rw [←hgl.out] at hr hrow
  have hrn:r≤n:=by rw [hr.out,hgl.out];exact gl17_len _ _
  have x0V:=x0 V hbV
  have x1V:=x1 V hbV
  have x2V:=x2 V hbV
  by_cases hpos:0<r
  case pos =>
   have hposI:(0:Int)<(r:Int):=by omega
   have hfin2:Hid (res=some (Yn (R.map fun r => !r) (f.blocks.map fun l=>l.map (Zg gl)))):=hide (by
    rw [hres.out]
    unfold Yb4
    rw [←hn.out,←hgl.out,←hr.out,if_pos hpos])
   have hposD:decide ((0:Int)<(r:Int))=true:=decide_eq_true hposI
   obtain⟨V2,hV2,hb12,h2s,hxi⟩:=Y6 V #[.string f.name, .slice A1 np k1, .int .i64 f.ret, .slice A2 n k2] 32
   obtain⟨Ng,hNg⟩:=Jn (V.heap.size)
   have hG0:V2.heap[Ng]? = some (.cells #[.string f.name, .slice A1 np k1, .int .i64 f.ret, .slice A2 n k2] 32 (0,0)):=by rw [←hV2,hNg.out];exact heap_alloc_new V _
   have hbV2:Below W.heap.size W V2:=hbV.trans (hb12.mono hVs)
   have hNgW:W.heap.size≤Ng:=by have:=hNg.out;omega
   have hNg2:Ng<V2.heap.size:=(Array.getElem?_eq_some_iff.1 hG0).1
   have hrow2:=hide (hrow.out.kept (w':=V2) fun k _ hk=>hb12.block k hk)
   have hwlt:w.heap.size<V2.heap.size:=by omega
   have hwNg:w.heap.size≠Ng:=by omega
   have X0:∀w',Only (fun k=>k=Ng) V2.heap.size V2 w'→w'.cell? ⟨w.heap.size,3,none⟩=some (.slice A2 n k2):=Yx (x3 V2 hbV2) hwlt hwNg
   have hrd0:Hid (RdX Ng V2 f (mapB (Zg gl) f.blocks 0) (.slice A1 np k1) (.slice A2 n k2)):=hide (fun w' h9=>by
    rw [mapB_zero]
    exact hF.out w' (hbV2.trans (h9.to_below (fun k hk=>by subst hk;exact hNgW) (by omega))))
   have hbx0:Hid (V2.heap[Ng]? = some (.cells #[.string f.name, .slice A1 np k1, .int .i64 f.ret, .slice A2 n k2] 32 (0,0))):=hide hG0
   have hon0:Only (fun k=>k=Ng) V2.heap.size V2 V2:=Only.refl _ _ _
   have hglr:=hide (fun(w':World) (h9:Only (fun k=>k=Ng) V2.heap.size V2 w')=>(⟨Yc hrow2.out.row fun k hk=>h9.block k (Ya hrow2.out.row hk).2.1 (Z7 (Ya hrow2.out.row hk).2.2 ⟨_,hG0⟩ (by decide)),hrow2.out.ok⟩:OwnI w' W.heap.size (.slice A r C) gl))
   have hgln:gl.length≤4000000:=by rw [←hr.out];omega
   have hlz:Hid (∀l,l∈f.blocks→∀x,x∈l→(Zg gl x).args.length≤2000000∧(Zg gl x).to.length≤2000000):=hide (fun l hl x hx=>by
    have h9:=(hs.out.code l hl).2 x hx
    have h8:=lostI_len (g:=gl) (x:=x)
    exact⟨Nat.le_trans h8.1 h9.1,Nat.le_trans h8.2 h9.2⟩)
   have hV2s:=hbV2.size
   refine hd4 hV2 h2s hb12 hG0 ?_;clear hV2 h2s hb12 hG0;intro hV2 h2s hb12 hG0
   clear hxi hrow2
   go_upto_region 9 with(fail)
   rw [hV2.out,←hNg.out]
   clear x0V x1V x2V x3V
   go_wp2
   go_loopw [9] (fun s wr=>∃(b:Nat) (Ac:Option Addr) (kc:Nat) (Ad:Option Addr) (kd:Nat),s = .int .i64 b∧b≤n∧Hid (wr.heap[Ng]? = some (.cells #[.string f.name, .slice Ac np kc, .int .i64 f.ret, .slice Ad n kd] 32 (0,0)))∧Hid (RdX Ng wr f (mapB (Zg gl) f.blocks b) (.slice Ac np kc) (.slice Ad n kd))∧Only (fun k=>k=Ng) V2.heap.size V2 wr) (fun s _=>n - (intOf s).toNat)
   case atStart=>exact⟨0,_,_,_,_,rfl,Nat.zero_le _,hbx0,hrd0,hon0⟩
   case round =>
    clear hbx0 hrd0 hon0
    rename World=>V3
    obtain⟨b,Ac,kc,Ad,kd,rfl,hb,hbx,hrd,hon⟩:=hrel
    have hons:=hon.size
    have X0V:=X0 V3 hon
    obtain⟨z0,z1,z2,z3⟩:=bx4 hbx.out
    by_cases hltb:b<n
    ·have hbi : (b : Int) < (n : Int) := by omega
     obtain⟨l,hl⟩:=Yf (l:=f.blocks) (k:=b) (by rw [←hn.out];exact hltb)
     have cL:Hid (Calls Tryz.prog 67 #[f.v (.slice Ac np kc) (.slice Ad n kd), .int .i64 b, .slice A r C] V3 (GivesF f (mapB (Zg gl) f.blocks (b+1)) V3)):=hide (by
      have hg9:=hglr.out V3 hon
      rw [hr.out] at hg9⊢
      have h8:=rlose_any (Ye f (mapB (Zg gl) f.blocks b)) b l (mapB_at hl.out) gl A C _ _ V3 _ (Nat.le_refl _) (hrd.out V3 (Only.refl _ _ _)) (small_map (f:=f) (bs:=f.blocks) hs.out hlz.out b) (hg9.mono (Nat.zero_le _)) hgln (hwf.out l (Jm hl.out)).phi
      have e9:(Ye f (mapB (Zg gl) f.blocks b)).blocks.set b (l.map (Zg gl))=mapB (Zg gl) f.blocks (b+1):=mapB_next hl.out
      rw [e9] at h8
      exact h8)
     go_wp2_with (fail)
     refine cL.out.mono ?_
     rintro e Y ⟨c9,d9,rfl,hI9,hK9,hb9⟩
     obtain⟨A7,k7,hcf⟩:=Yd hI9.row
     subst hcf
     obtain⟨A8,k8,hdf⟩:=hK9.form0'
     subst hdf
     rw [mapB_len,←hn.out] at hK9⊢
     rw [←hnp.out] at hI9⊢
     have hbxY:=(hb9.block Ng (Array.getElem?_eq_some_iff.1 hbx.out).1).trans hbx.out
     obtain⟨z0,z1,z2,z3⟩:=bx4 hbxY
     obtain⟨w0,w1,w2,w3⟩:=bf4 hbxY
     have hbx2:=hide (put4 (y0 := .string f.name) (y1 := .slice A7 np k7) (y2 := .int .i64 f.ret) (y3 := .slice A8 n k8) hbxY)
     have honY:Only (fun k=>k=Ng) V2.heap.size V2 Y:=hon.next (Nat.le_refl _) (Only.of_below hb9)
     have honZ:=(((honY.setCell (p:=⟨Ng,0,none⟩) (.inl rfl) (.string f.name)).setCell (p:=⟨Ng,1,none⟩) (.inl rfl) (.slice A7 np k7)).setCell (p:=⟨Ng,2,none⟩) (.inl rfl) (.int .i64 f.ret)).setCell (p:=⟨Ng,3,none⟩) (.inl rfl) (.slice A8 n k8)
     have hrd2:Hid (RdX Ng ((((Y.setCell ⟨Ng,0,none⟩ (.string f.name)).setCell ⟨Ng,1,none⟩ (.slice A7 np k7)).setCell ⟨Ng,2,none⟩ (.int .i64 f.ret)).setCell ⟨Ng,3,none⟩ (.slice A8 n k8)) f (mapB (Zg gl) f.blocks (b+1)) (.slice A7 np k7) (.slice A8 n k8)):=hide (RdX.own (hI9.kept_box hbxY fun j e1=>Z8 _ _ _ _ _ e1) (hK9.kept_box hbxY fun j e1=>Z8 _ _ _ _ _ e1) hbx2.out hret.out hnm.out)
     refine hd4 hbxY hI9 hK9 hb9 ?_;clear hbxY hI9 hK9 hb9;intro hbxY hI9 hK9 hb9
     go_wp2
     go_roundw
     case rel=>exact⟨b+1,_,_,_,_,by go_num,hltb,hbx2,hrd2,honZ⟩
     case measure=>simp [intOf];omega
    ·obtain rfl : n = b := by omega
     have hbs4:Hid (mapB (Zg gl) f.blocks n=f.blocks.map fun l=>l.map (Zg gl)):=hide (by rw [hn.out,mapB_end])
     have cW:Hid (Calls Tryz.prog 72 #[f.v (.slice Ac np kc) (.slice Ad n kd), .slice A r C] V3 (GivesF f (Yn (R.map fun r => !r) (f.blocks.map fun l=>l.map (Zg gl))) V3)):=hide (by
      have hg9:=hglr.out V3 hon
      have h7:=hrd.out V3 (Only.refl _ _ _)
      have h6:=small_map (f:=f) (bs:=f.blocks) hs.out hlz.out n
      rw [hbs4.out] at h7 h6
      have h8:=rwithout17_any (Ye f (f.blocks.map fun l:List Ins=>l.map (Zg gl))) gl (R.map fun r => !r) (by show _=(f.blocks.map _).length;rw [List.length_map,List.length_map,hRn.out,hn.out]) (fun k g hk=>by
       rw [List.getElem?_map] at hk
       cases hk9:R[k]? with
       | none=>rw [hk9] at hk;cases hk
       | some q =>
        rw [hk9] at hk
        have hkn:=(Js.1 hk9).1
        rw [hRn.out] at hkn
        have hqd:R.getD k false=q:=by rw [Jq,hk9];rfl
        cases q with
        | true =>
         cases hk
         show decide ((k:Int)∈gl)=false
         rw [decide_eq_false_iff_not,hgl.out,gl17_mem,hqd]
         simp
        | false =>
         cases hk
         show decide ((k:Int)∈gl)=true
         rw [decide_eq_true_iff,hgl.out,gl17_mem,hqd]
         exact⟨hkn,rfl⟩) (fun l hl x hx t ht=>by
       obtain⟨m,hm,rfl⟩:=List.mem_map.1 hl
       obtain⟨y,hy,rfl⟩:=List.mem_map.1 hx
       show 0≤t∧t<((f.blocks.map _).length:Nat)
       rw [List.length_map]
       exact(hwf.out m hm).to_ y hy t (lostI_to ht)) A C _ _ V3 _ (Nat.le_refl _) h7 h6 (by rw [←hr.out];exact hg9.mono (Nat.zero_le _)) hgln
      rw [←hr.out] at h8
      exact h8)
     go_wp2_with (fail)
     refine cW.out.mono ?_
     rintro e Y ⟨c9,d9,rfl,o1,o2,hb9⟩
     obtain⟨A7,k7,hcf⟩:=Yd o1.row
     subst hcf
     obtain⟨A8,k8,hdf⟩:=o2.form0'
     subst hdf
     obtain⟨nb2,hnb2⟩:∃x,Hid (x=(Yn (R.map fun r => !r) (f.blocks.map fun l=>l.map (Zg gl))).length):=⟨_,hide rfl⟩
     rw [←hnb2.out] at o2⊢
     rw [←hnp.out] at o1⊢
     have hYW:Below W.heap.size W Y:=(hbV2.trans (hon.to_below (B':=W.heap.size) (fun k hk=>by subst hk;exact hNgW) hV2s)).trans (hb9.mono (by omega))
     have hRV:=(hYW.block Nr hNrW).trans hR0.out
     obtain⟨n0,n1,n2,n3⟩:=bx4 hRV
     obtain⟨g0,g1,g2,g3⟩:=bf4 hRV
     replace hRV:=hide hRV
     have hwV:=hwW.out.trans (hYW.mono hws)
     refine hd3 o1 o2 hb9 ?_;clear o1 o2 hb9;intro o1 o2 hb9
     clear z0 z1 z2 z3 X0V
     go_wp2
     refine bodyPost_ret (v := .tuple #[f.v (.slice A7 np k7) (.slice A8 nb2 k8), .bool true]) (by simp [results,Tryz.results32,go_sem,n0,n1,n2,n3,g0,g1,g2,g3]) rfl ?_
     rw [hfin2.out]
     have hfin:=(((hwV.setCell (p:=⟨Nr,0,none⟩) hNrw (.string f.name)).setCell (p:=⟨Nr,1,none⟩) hNrw (.slice A7 np k7)).setCell (p:=⟨Nr,2,none⟩) hNrw (.int .i64 f.ret)).setCell (p:=⟨Nr,3,none⟩) hNrw (.slice A8 nb2 k8)
     exact⟨hfin,_,_,rfl,(o1.out.kept fun k hk _=>Z8 _ _ _ _ _ (show k≠Nr by omega)).mono (by omega),(o2.out.kept fun k hk _=>Z8 _ _ _ _ _ (show k≠Nr by omega)).mono (by omega)⟩
  case neg =>
   have hposI:¬(0:Int)<(r:Int):=by omega
   have hposD:decide ((0:Int)<(r:Int))=false:=decide_eq_false hposI
   have hresN:Hid (res=((List.range f.blocks.length).find? (mgB (Zw (Yo f.blocks) f.blocks.length) f.blocks)).map fun a=>Yn ((List.replicate f.blocks.length false).set (mgTo f.blocks a) true) ((Zb f.blocks a (mgTo f.blocks a)).map fun l=>l.map (movR (mgTo f.blocks a) a))):=hide (by
    rw [hres.out]
    unfold Yb4
    rw [←hn.out,←hgl.out,←hr.out,if_neg hpos,hn.out])
   obtain⟨P,hP⟩:=Jn (Zw (Yo f.blocks) f.blocks.length)
   have cP:Hid (Calls Tryz.prog 73 #[f.v (.slice A1 np k1) (.slice A2 n k2)] V (PredPost n P V)):=hide (by
    have h9:=rpreds_any f (.slice A1 np k1) (.slice A2 n k2) V V.heap.size (Nat.le_refl _) (hF.out V hbV) hs.out
    rwa [←hn.out,hn.out,←hP.out,←hn.out] at h9)
   rw [←hP.out] at hresN
   have hPn:P.length=n:=by rw [hP.out,hn.out];simp [Zw]
   clear hrow hr
   go_wp2_with (fail)
   refine cP.out.mono ?_
   rintro e V9 ⟨gP,cs,rfl,hPL,hb9⟩
   have hbV9:Below W.heap.size W V9:=hbV.trans (hb9.mono hVs)
   have hPr:Hid (∀(b:Nat) pl,P[b]? = some pl→∃A C,∀w',Below V9.heap.size V9 w'→w'.cell? ⟨gP,b,none⟩=some (.slice A pl.length C)):=hide (fun b pl hpl=>by
    obtain⟨c,hc,hI⟩:=hPL.at_ hpl
    obtain⟨A,C,hcf⟩:=Yd hI.row
    subst hcf
    refine⟨A,C,fun w' h9 => ?_⟩
    rw [h9.cell (p:=⟨gP,b,none⟩) (Ya hPL.row rfl).2.1]
    have hbl:=(Js.1 hpl).1
    have hPLr:=hPL.row
    rw [hPn] at hPLr hbl
    rw [World.ownsRow.cellAt hPLr b (by rw [Nat.mul_one];exact hbl),hc])
   have hnt0:Hid (∀j,j<0→mgB P f.blocks j=false):=hide (fun j hj=>absurd hj (Nat.not_lt_zero _))
   have hself9:=Below.refl V9.heap.size V9
   refine hd2 hPL hb9 ?_;clear hPL hb9;intro hPL hb9
   clear x0V x1V x2V x3V cP
   have x3V:=x3 V9 hbV9
   go_wp2
   go_loopw [11] (fun s wr=>∃a:Nat,s = .int .i64 a∧a≤n∧Hid (∀j,j<a→mgB P f.blocks j=false)∧Below V9.heap.size V9 wr) (fun s _=>n - (intOf s).toNat)
   case atStart=>exact⟨0,rfl,Nat.zero_le _,hnt0,hself9⟩
   case round =>
    clear hnt0 hself9 x3V hself
    rename World=>V
    obtain⟨a,rfl,ha,hno,hb90⟩:=hrel
    have hV9s:=hb90.size
    have hV9W:=hbV9.size
    have hbV:Below W.heap.size W V:=hbV9.trans (hb90.mono hV9W)
    have hVs:=hbV.size
    have x0V:=x0 V hbV
    have x1V:=x1 V hbV
    have x2V:=x2 V hbV
    have x3V:=x3 V hbV
    by_cases hlt:a<n
    ·have hai : (a : Int) < (n : Int) := by omega
     obtain⟨l,hl⟩:=Yf (l:=f.blocks) (k:=a) (by rw [←hn.out];exact hlt)
     have hwl:=hide (hwf.out l (Jm hl.out))
     obtain⟨q,hq⟩:∃q,Hid (l.length=q+1):=⟨l.length - 1,hide (by have:=List.length_pos_iff.2 hwl.out.ne;omega)⟩
     obtain⟨ins,hins⟩:=Yf (l:=l) (k:=q) (by have:=hq.out;omega)
     have hend:=hide (endI_at hl.out hq.out hins.out)
     have hmem:=hide (Jm hins.out)
     have hLs:=hide (rlast_any f a q l ins (.slice A1 np k1) (.slice A2 n k2) V V.heap.size (Nat.le_refl _) (hF.out V hbV) hl.out hq.out hins.out)
     have hstep:Hid (mgB P f.blocks a=false→∀j,j<a+1→mgB P f.blocks j=false):=hide (fun h9 j hj=>by
      rcases Nat.lt_succ_iff_lt_or_eq.1 hj with h1|h1
      ·exact hno.out j h1
      ·rw [h1];exact h9)
     go_wp2_with (fail)
     refine hLs.out.mono ?_
     rintro e V1 ⟨ca,ct,rfl,hri,hb1⟩
     obtain⟨A5,k5,A6,k6,rfl,rfl,hop64,g5,g6⟩:=rins_open hri
     obtain⟨na,hna⟩:=Jn (ins.args.length)
     obtain⟨nt,hnt⟩:=Jn (ins.to.length)
     rw [←hna.out] at g5 hri⊢
     rw [←hnt.out] at g6 hri⊢
     obtain⟨V2,hV2,hb12,h2s,hxi⟩:=Y6 V1 #[.int .i64 ins.op, .int .i64 ins.reg, .int .i64 ins.ty, .int .i64 ins.num, .int .i64 ins.flags, .slice A5 na k5, .slice A6 nt k6] 44
     obtain⟨Ni,hNi⟩:=Jn (V1.heap.size)
     have hself2:=Below.refl V2.heap.size V2
     have hb902:Below V9.heap.size V9 V2:=(hb90.trans (hb1.mono hV9s)).trans (hb12.mono (by have:=hb1.size;omega))
     have hbV2:Below W.heap.size W V2:=hbV9.trans (hb902.mono hV9W)
     have i0V:=hxi 0 _ rfl V2 hself2
     have i6V:=hxi 6 _ rfl V2 hself2
     rw [←hNi.out] at i0V i6V
     refine hd5 hV2 h2s hri hb1 hop64 ?_;clear hV2 h2s hri hb1 hop64;intro hV2 h2s hri hb1 hop64
     clear hxi hLs x0V x1V x2V x3V hVs g5
     go_upto_region 19 with(fail)
     rw [hV2.out,←hNi.out]
     by_cases h31:ins.op=31
     case neg =>
      have hnx:=hide (hstep.out (by unfold mgB;rw [hend.out];simp [h31]))
      have q31:(ins.op != 31)=true:=by simp [h31]
      replace h31:=hide h31
      clear i6V g6
      go_wp2
      go_roundw
      case rel=>exact⟨a+1,by go_num,hlt,hnx,hb902⟩
      case measure=>simp [intOf];omega
     have q31:(ins.op != 31)=false:=by simp [h31]
     have ht1:=hwl.out.br ins hmem.out h31
     have hnt1:nt=1:=by rw [hnt.out,ht1]
     subst hnt1
     replace h31:=hide h31
     obtain⟨gt,ot,rfl,gt6⟩:=g6 (by omega)
     obtain⟨t0,ht0⟩:=Yf (l:=ins.to) (k:=0) (by rw [ht1];omega)
     have gt60:=(gt6 0 t0 ht0.out).2 V2 hb12
     rw [Nat.add_zero] at gt60
     obtain⟨hr0',hr1'⟩:=hwl.out.to_ ins hmem.out t0 (Jm ht0.out)
     obtain⟨b,hbe,hbn⟩:∃b:Nat,t0=(b:Int)∧b<n:=by
      obtain⟨on,e⟩:=Int.eq_ofNat_of_zero_le hr0'
      exact⟨on,e,by have:=hn.out;omega⟩
     subst hbe
     have hbi:(b:Int)<(n:Int):=by omega
     have hmt:Hid (mgTo f.blocks a=b):=hide (by
      unfold mgTo
      rw [hend.out,Option.map_some,Option.getD_some,Jq,ht0.out]
      rfl)
     obtain⟨pl,hpl⟩:=Yf (l:=P) (k:=b) (by rw [hPn];exact hbn)
     obtain⟨lb,hlb⟩:=Yf (l:=f.blocks) (k:=b) (by rw [←hn.out];exact hbn)
     have hlbne:=(hwf.out lb (Jm hlb.out)).ne
     obtain⟨y,hy⟩:=Yf (l:=lb) (k:=0) (List.length_pos_iff.2 hlbne)
     obtain⟨Ap,Cp,hpr⟩:=hPr.out b pl hpl.out
     have hprV:=hpr V2 hb902
     obtain⟨npl,hnpl⟩:∃x,Hid (x=pl.length):=⟨_,hide rfl⟩
     rw [←hnpl.out] at hprV
     have hmg:Hid (mgB P f.blocks a=(!(decide (b=a))&&decide (npl=1) && !(decide (y.op=25)))):=hide (by
      unfold mgB
      rw [hend.out]
      simp only [hmt.out]
      rw [Jq,hpl.out,Jq,hlb.out]
      simp only [Option.getD_some,hy.out,Option.map_some]
      rw [hnpl.out,h31.out]
      simp)
     obtain⟨gbk,obk,hA2,heb⟩:=gb.out (by omega)
     have hA2':=hA2
     subst hA2'
     obtain⟨cb,hrb,hcb⟩:=heb b lb hlb.out
     obtain⟨Ab,kb,hbe2, -,gbb⟩:=Rp.slice_open hrb
     have hbe3:cb = .slice Ab lb.length kb:=by simpa using hbe2
     subst hbe3
     obtain⟨mb,hmb⟩:∃x,Hid (x=lb.length):=⟨_,hide rfl⟩
     have hmb0:0<mb:=by rw [hmb.out];exact List.length_pos_iff.2 hlbne
     rw [←hmb.out] at hcb gbb
     obtain⟨gy,oy,hAb,hey⟩:=gbb hmb0
     subst hAb
     obtain⟨esy, -,⟨cy,dy,hye, -⟩,hcy⟩:=hey 0 y hy.out
     subst hye
     rw [Nat.zero_mul,Nat.add_zero] at hcy
     have hwV2:=hwW.out.trans (hbV2.mono hws)
     have hy0:=hcy.seven.1 V2 (hwV2)
     have hcbV:=hcb V2 hwV2
     have x0V:=x0 V2 hbV2
     have x1V:=x1 V2 hbV2
     have x2V:=x2 V2 hbV2
     have x3V:=x3 V2 hbV2
     have hmbi:(0:Int)<(mb:Int):=by omega
     have hmbd:decide ((0:Int)<(mb:Int))=true:=decide_eq_true hmbi
     refine hd4 hbe2 hrb hlbne hA2 ?_;clear hbe2 hrb hlbne hA2;intro hbe2 hrb hlbne hA2
     clear hcy hey gbb heb hcb hpr gt6
     by_cases hba:b=a
     case pos =>
      have hnx:=hide (hstep.out (by rw [hmg.out];simp [hba]))
      have qba:((b:Int) != (a:Int))=false:=by simp [hba]
      replace hba:=hide hba
      go_wp2
      go_roundw
      case rel=>exact⟨a+1,by go_num,hlt,hnx,hb902⟩
      case measure=>simp [intOf];omega
     have qba:((b:Int) != (a:Int))=true:=by
      rw [bne_iff_ne]
      omega
     by_cases hp1:npl=1
     case neg =>
      have hnx:=hide (hstep.out (by rw [hmg.out];simp [hp1]))
      have qp1:((npl:Int)==1)=false:=by
       rw [beq_eq_false_iff_ne]
       omega
      refine hd2 hba hp1 ?_;clear hba hp1;intro hba hp1
      go_wp2
      go_roundw
      case rel=>exact⟨a+1,by go_num,hlt,hnx,hb902⟩
      case measure=>simp [intOf];omega
     have qp1:((npl:Int)==1)=true:=by
      rw [beq_iff_eq]
      omega
     by_cases hy25:y.op=25
     case pos =>
      have hnx:=hide (hstep.out (by rw [hmg.out];simp [hy25]))
      have qy:(y.op != 25)=false:=by simp [hy25]
      refine hd3 hba hp1 hy25 ?_;clear hba hp1 hy25;intro hba hp1 hy25
      go_wp2
      go_roundw
      case rel=>exact⟨a+1,by go_num,hlt,hnx,hb902⟩
      case measure=>simp [intOf];omega
     have qy:(y.op != 25)=true:=by simp [hy25]
     have hmgT:mgB P f.blocks a=true:=by rw [hmg.out];simp [hba,hp1,hy25]
     have hfin2:Hid (res=some (Yn ((List.replicate f.blocks.length false).set b true) ((Zb f.blocks a b).map fun l=>l.map (movR b a)))):=hide (by
      rw [hresN.out,Qk (by rw [←hn.out];exact hlt) hmgT hno.out,Option.map_some,hmt.out])
     have hjs9:=hjs.out a b (by rw [←hn.out];exact hlt) (by rw [←hP.out];exact hmgT) hmt.out.symm
     have cJ:Hid (Calls Tryz.prog 74 #[f.v (.slice A1 np k1) (.slice (some ⟨gbk,obk,none⟩) n k2), .int .i64 a, .int .i64 b] V2 (GivesF f (Yn ((List.replicate f.blocks.length false).set b true) ((Zb f.blocks a b).map fun l=>l.map (movR b a))) V2)):=hide (rjoined_any f a b l lb hl.out hlb.out (Ne.symm hba) hwl.out.ne hlbne.out (fun l h=>(hwf.out l h).phi) _ rfl hjs9.1 hjs9.2 _ _ V2 V2.heap.size (Nat.le_refl _) (hF.out V2 hbV2) hs.out)
     refine hd4 hba hp1 hy25 hmgT ?_;clear hba hp1 hy25 hmgT;intro hba hp1 hy25 hmgT
     clear hjs9
     go_wp2_with (fail)
     refine cJ.out.mono ?_
     rintro e Y ⟨c9,d9,rfl,o1,o2,hb9⟩
     obtain⟨A7,k7,hcf⟩:=Yd o1.row
     subst hcf
     obtain⟨A8,k8,hdf⟩:=o2.form0'
     subst hdf
     obtain⟨nb2,hnb2⟩:∃x,Hid (x=(Yn ((List.replicate f.blocks.length false).set b true) ((Zb f.blocks a b).map fun l=>l.map (movR b a))).length):=⟨_,hide rfl⟩
     rw [←hnb2.out] at o2⊢
     rw [←hnp.out] at o1⊢
     have hV2Ws:=hbV2.size
     have hYW:Below W.heap.size W Y:=hbV2.trans (hb9.mono hV2Ws)
     have hRV:=(hYW.block Nr hNrW).trans hR0.out
     obtain⟨n0,n1,n2,n3⟩:=bx4 hRV
     obtain⟨g0,g1,g2,g3⟩:=bf4 hRV
     replace hRV:=hide hRV
     have hwV:=hwW.out.trans (hYW.mono hws)
     refine hd3 o1 o2 hb9 ?_;clear o1 o2 hb9;intro o1 o2 hb9
     clear x0V x1V x2V x3V i0V i6V gt60 hcbV hy0 hprV
     go_wp2
     refine bodyPost_ret (v := .tuple #[f.v (.slice A7 np k7) (.slice A8 nb2 k8), .bool true]) (by simp [results,Tryz.results32,go_sem,n0,n1,n2,n3,g0,g1,g2,g3]) rfl ?_
     rw [hfin2.out]
     have hfin:=(((hwV.setCell (p:=⟨Nr,0,none⟩) hNrw (.string f.name)).setCell (p:=⟨Nr,1,none⟩) hNrw (.slice A7 np k7)).setCell (p:=⟨Nr,2,none⟩) hNrw (.int .i64 f.ret)).setCell (p:=⟨Nr,3,none⟩) hNrw (.slice A8 nb2 k8)
     exact⟨hfin,_,_,rfl,(o1.out.kept fun k hk _=>Z8 _ _ _ _ _ (show k≠Nr by omega)).mono (by omega),(o2.out.kept fun k hk _=>Z8 _ _ _ _ _ (show k≠Nr by omega)).mono (by omega)⟩
    ·obtain rfl : n = a := by omega
     have hfin2:Hid (res=none):=hide (by rw [hresN.out,Zd (by rw [←hn.out];exact hno.out)];rfl)
     have hRV:=(hbV.block Nr hNrW).trans hR0.out
     obtain⟨n0,n1,n2,n3⟩:=bx4 hRV
     obtain⟨g0,g1,g2,g3⟩:=bf4 hRV
     replace hRV:=hide hRV
     go_wp2
     refine bodyPost_ret (v := .tuple #[f.v (.slice A1 np k1) (.slice A2 n k2), .bool false]) (by simp [results,Tryz.results32,go_sem,n0,n1,n2,n3,g0,g1,g2,g3]) rfl ?_
     rw [hfin2.out]
     have hwV:=hwW.out.trans (hbV.mono hws)
     have hfin:=(((hwV.setCell (p:=⟨Nr,0,none⟩) hNrw (.string f.name)).setCell (p:=⟨Nr,1,none⟩) hNrw (.slice A1 np k1)).setCell (p:=⟨Nr,2,none⟩) hNrw (.int .i64 f.ret)).setCell (p:=⟨Nr,3,none⟩) hNrw (.slice A2 n k2)
     exact⟨hfin,rfl⟩
def step17S (bs:List (List Ins)):Option (List (List Ins)):=((endsS (Yw bs) bs).or (phisS (Yw bs) bs)).or (Yb4 (Yw bs) bs)
structure Pre17 (f : Fun) (bs : List (List Ins)) : Prop where
 small:Zo (Ye f bs)
 wf:Wf bs
 fl:bs.flatten.length≤2000000
 js:∀(a b:Nat),a<bs.length→mgB (Zw (Yo bs) bs.length) bs a=true→b=mgTo bs a→Zo (Ye f ((Zb bs a b).map fun l=>l.map (movR b a)))∧∀l,l∈(Zb bs a b).map (fun l=>l.map (movR b a))→∀x,x∈l→∀t:Int,t∈x.to→0≤t∧t<((Zb bs a b).map (fun l=>l.map (movR b a))).length
theorem rstep17_any (f : Fun) (hpre : Pre17 f f.blocks) (c1 d1 : Value) (w : World) (B : Nat) (hB : B ≤ w.heap.size) (hf : RFun.rep w B [.string f.name, c1, .int .i64 f.ret, d1] f) :
  Calls Tryz.prog 11 #[f.v c1 d1] w (MayPost f c1 d1 (step17S f.blocks) w):=by
 have hs:Zo f:=hpre.small
 obtain⟨-, -, -, -, -,hret,hnm⟩:=id hf
 obtain⟨hp,hb⟩:=Yk (RFun.later hf (Below.refl _ _) hB)
 obtain⟨A1,k1,h1, -, -⟩:=Rp.slice1_open hp
 obtain⟨A2,k2,h2,hm2, -⟩:=Rp.slice1_open hb
 cases h1;cases h2
 clear hp hb hm2
 obtain⟨n,hn⟩:=Jn (f.blocks.length)
 obtain⟨np,hnp⟩:∃n,Hid (n=f.params.length):=⟨_,hide rfl⟩
 have hnle:n≤2000000:=by rw [hn.out];exact hs.blocks
 rw [←hn.out,←hnp.out] at hf
 rw [←hnp.out]
 rw [←hn.out]
 obtain⟨res,hres⟩:=Jn (step17S f.blocks)
 rw [←hres.out]
 obtain⟨W,hW,hwW,hWs,hx1,hx2⟩:=Ql w #[.string f.name, .slice A1 np k1, .int .i64 f.ret, .slice A2 n k2] #[.string ⟨#[]⟩, .slice none 0 0, .int .i64 0, .slice none 0 0] 32 32
 obtain⟨Nr,hNr⟩:=Jn (w.heap.size+1)
 have hR0:W.heap[Nr]? = some (.cells #[.string ⟨#[]⟩, .slice none 0 0, .int .i64 0, .slice none 0 0] 32 (0,0)):=by
  rw [←hW,hNr.out]
  have:=Yu (w.alloc (.cells #[.string f.name, .slice A1 np k1, .int .i64 f.ret, .slice A2 n k2] 32)) (.cells #[.string ⟨#[]⟩, .slice none 0 0, .int .i64 0, .slice none 0 0] 32)
  simpa using this
 have hself:=Below.refl W.heap.size W
 have x0:=hx1 0 _ rfl
 have x1:=hx1 1 _ rfl
 have x2:=hx1 2 _ rfl
 have x3:=hx1 3 _ rfl
 have hNrW:Nr<W.heap.size:=(Array.getElem?_eq_some_iff.1 hR0).1
 have hNrw:w.heap.size≤Nr:=by have:=hNr.out;omega
 have hws:w.heap.size≤W.heap.size:=hwW.size
 have hF:Hid (∀w',Below W.heap.size W w'→RFun.rep w' w'.heap.size [.string f.name, .slice A1 np k1, .int .i64 f.ret, .slice A2 n k2] f):=hide (fun w' h=>RFun.later hf ((hwW.trans (h.mono hws)).mono hB) (by have:=h.size;omega))
 obtain⟨R,hR⟩:=Jn (Yw f.blocks)
 have hRn:Hid (R.length=f.blocks.length):=hide (by rw [hR.out];exact Qj _)
 have cR:Hid (Calls Tryz.prog 29 #[f.v (.slice A1 np k1) (.slice A2 n k2)] W (Yay n R W)):=hide (by
  have h9:=rreach_any f (.slice A1 np k1) (.slice A2 n k2) W W.heap.size (Nat.le_refl _) (hF.out W hself) hs
  rwa [←hn.out,←hR.out] at h9)
 have x0W:=x0 W hself
 have x1W:=x1 W hself
 have x2W:=x2 W hself
 have x3W:=x3 W hself
 have hsr:Hid (res=((endsS R f.blocks).or (phisS R f.blocks)).or (Yb4 R f.blocks)):=hide (by rw [hres.out,hR.out];rfl)
 refine hd9 hR0 hs hf hwW hWs hW hret hnm hpre ?_;clear hR0 hs hf hwW hWs hW hret hnm hpre;intro hR0 hs hf hwW hWs hW hret hnm hpre
 clear hx1 hx2
 go_enter Tryz.func11,Tryz.ntmps11
 go_upto_region 1 with(fail)
 rw [hW.out,←hNr.out]
 go_wp2_with (fail)
 refine cR.out.mono ?_
 rintro e V0 ⟨gR,rfl,hrow,hb0⟩
 have hV0s:=hb0.size
 have hrow0:Hid (∀w',Below V0.heap.size V0 w'→w'.ownsRow 0 4 1 (.slice (some ⟨gR,0,none⟩) f.blocks.length f.blocks.length) f.blocks.length (R.map Value.bool)):=hide (fun w' h9=>by
  rw [←hn.out]
  exact Zf (Yc hrow fun k hk=>h9.block k (Ya hrow hk).2.1) (Nat.zero_le _))
 have hself0:=Below.refl V0.heap.size V0
 have cE:Hid (Calls Tryz.prog 30 #[f.v (.slice A1 np k1) (.slice A2 n k2), .slice (some ⟨gR,0,none⟩) n n] V0 (MayPost f (.slice A1 np k1) (.slice A2 n k2) (endsS R f.blocks) V0)):=hide (by
  have h9:=rends17_any f R gR (.slice A1 np k1) (.slice A2 n k2) V0 V0.heap.size (Nat.le_refl _) (hF.out V0 hb0) hs.out hpre.out.wf hRn.out (hrow0.out V0 hself0)
  rwa [←hn.out] at h9)
 have x0V:=x0 V0 hb0
 have x1V:=x1 V0 hb0
 have x2V:=x2 V0 hb0
 have x3V:=x3 V0 hb0
 replace hrow:=hide hrow
 clear x0W x1W x2W x3W cR
 go_wp2_with (fail)
 refine cE.out.mono ?_
 clear cE
 cases hE:endsS R f.blocks with
 | some bsE =>
  rintro e V1 ⟨hb1,c9,d9,rfl,o1,o2⟩
  have hV1s:=hb1.size
  obtain⟨A7,k7,hcf⟩:=Yd o1.row
  subst hcf
  obtain⟨A8,k8,hdf⟩:=o2.form0'
  subst hdf
  obtain⟨nb2,hnb2⟩:∃x,Hid (x=bsE.length):=⟨_,hide rfl⟩
  rw [←hnb2.out] at o2⊢
  rw [←hnp.out] at o1⊢
  have hresE:Hid (res=some bsE):=hide (by rw [hsr.out,hE];rfl)
  obtain⟨V2,hV2,hb12,h2s,hxi⟩:=Y6 V1 #[.string f.name, .slice A7 np k7, .int .i64 f.ret, .slice A8 nb2 k8] 32
  obtain⟨N5,hN5⟩:=Jn (V1.heap.size)
  have hself2:=Below.refl V2.heap.size V2
  have i0:=hxi 0 _ rfl V2 hself2
  have i1:=hxi 1 _ rfl V2 hself2
  have i2:=hxi 2 _ rfl V2 hself2
  have i3:=hxi 3 _ rfl V2 hself2
  rw [←hN5.out] at i0 i1 i2 i3
  have o1':=hide (o1.kept (w':=V2) fun k _ hk=>hb12.block k hk)
  have o2':=hide (o2.kept (w':=V2) fun k _ hk=>hb12.block k hk)
  have hV2W:Below W.heap.size W V2:=(hb0.trans (hb1.mono hV0s)).trans (hb12.mono (by omega))
  refine hd5 hV2 h2s hE o1 o2 ?_;clear hV2 h2s hE o1 o2;intro hV2 h2s hE o1 o2
  clear hxi x0V x1V x2V x3V
  go_upto_region 3 with(fail)
  rw [hV2.out,←hN5.out]
  have hRV:=(hV2W.block Nr hNrW).trans hR0.out
  obtain⟨n0,n1,n2,n3⟩:=bx4 hRV
  obtain⟨g0,g1,g2,g3⟩:=bf4 hRV
  replace hRV:=hide hRV
  go_wp2
  refine bodyPost_ret (v := .tuple #[f.v (.slice A7 np k7) (.slice A8 nb2 k8), .bool true]) (by simp [results,Tryz.results11,go_sem,n0,n1,n2,n3,g0,g1,g2,g3]) rfl ?_
  rw [hresE.out]
  have hwV:=hwW.out.trans (hV2W.mono hws)
  have hfin:=(((hwV.setCell (p:=⟨Nr,0,none⟩) hNrw (.string f.name)).setCell (p:=⟨Nr,1,none⟩) hNrw (.slice A7 np k7)).setCell (p:=⟨Nr,2,none⟩) hNrw (.int .i64 f.ret)).setCell (p:=⟨Nr,3,none⟩) hNrw (.slice A8 nb2 k8)
  exact⟨hfin,_,_,rfl,(o1'.out.kept fun k hk _=>Z8 _ _ _ _ _ (show k≠Nr by omega)).mono (by omega),(o2'.out.kept fun k hk _=>Z8 _ _ _ _ _ (show k≠Nr by omega)).mono (by omega)⟩
 | none =>
  rintro e V1 ⟨hb1,rfl⟩
  have hV1s:=hb1.size
  obtain⟨V2,hV2,hb12,h2s,hxi⟩:=Y6 V1 #[.string f.name, .slice A1 np k1, .int .i64 f.ret, .slice A2 n k2] 32
  obtain⟨N5,hN5⟩:=Jn (V1.heap.size)
  have h5:V2.heap[N5]? = some (.cells #[.string f.name, .slice A1 np k1, .int .i64 f.ret, .slice A2 n k2] 32 (0,0)):=by rw [←hV2,hN5.out];exact heap_alloc_new V1 _
  have hN5V:N5<V2.heap.size:=(Array.getElem?_eq_some_iff.1 h5).1
  have hV02:Below V0.heap.size V0 V2:=hb1.trans (hb12.mono hV1s)
  have hV2W:Below W.heap.size W V2:=hb0.trans (hV02.mono hV0s)
  have hV2s:=hV02.size
  have cPh:Hid (Calls Tryz.prog 31 #[f.v (.slice A1 np k1) (.slice A2 n k2), .slice (some ⟨gR,0,none⟩) n n] V2 (MayPost f (.slice A1 np k1) (.slice A2 n k2) (phisS R f.blocks) V2)):=hide (by
   have h9:=rphis17_any f R gR (.slice A1 np k1) (.slice A2 n k2) V2 V2.heap.size (Nat.le_refl _) (hF.out V2 hV2W) hs.out hpre.out.fl hRn.out (hrow0.out V2 hV02)
   rwa [←hn.out] at h9)
  refine hd4 hV2 h2s hE h5 ?_;clear hV2 h2s hE h5;intro hV2 h2s hE h5
  clear hxi x0V x1V x2V x3V
  have x0V:=x0 V2 hV2W
  have x1V:=x1 V2 hV2W
  have x2V:=x2 V2 hV2W
  have x3V:=x3 V2 hV2W
  go_upto_region 3 with(fail)
  rw [hV2.out,←hN5.out]
  go_wp2_with (fail)
  refine cPh.out.mono ?_
  clear cPh x0V x1V x2V x3V
  cases hPh:phisS R f.blocks with
  | some bsE =>
   rintro e V3 ⟨hb3,c9,d9,rfl,o1,o2⟩
   have hV3s:=hb3.size
   obtain⟨A7,k7,hcf⟩:=Yd o1.row
   subst hcf
   obtain⟨A8,k8,hdf⟩:=o2.form0'
   subst hdf
   obtain⟨nb2,hnb2⟩:∃x,Hid (x=bsE.length):=⟨_,hide rfl⟩
   rw [←hnb2.out] at o2⊢
   rw [←hnp.out] at o1⊢
   have hresE:Hid (res=some bsE):=hide (by rw [hsr.out,hE.out,hPh];rfl)
   have h53:=(hb3.block N5 hN5V).trans h5.out
   obtain⟨z0,z1,z2,z3⟩:=bx4 h53
   obtain⟨w0,w1,w2,w3⟩:=bf4 h53
   have hN5W:W.heap.size≤N5:=by have:=hN5.out;omega
   have hV3W:Below W.heap.size W V3:=hV2W.trans (hb3.mono (by omega))
   obtain⟨V4,hV4⟩:∃V4,Hid ((((V3.setCell ⟨N5,0,none⟩ (.string f.name)).setCell ⟨N5,1,none⟩ (.slice A7 np k7)).setCell ⟨N5,2,none⟩ (.int .i64 f.ret)).setCell ⟨N5,3,none⟩ (.slice A8 nb2 k8)=V4):=⟨_,hide rfl⟩
   have hV4W:Below W.heap.size W V4:=by
    rw [←hV4.out]
    exact(((hV3W.setCell (p:=⟨N5,0,none⟩) hN5W _).setCell (p:=⟨N5,1,none⟩) hN5W _).setCell (p:=⟨N5,2,none⟩) hN5W _).setCell (p:=⟨N5,3,none⟩) hN5W _
   have h54:V4.heap[N5]? = some (.cells #[.string f.name, .slice A7 np k7, .int .i64 f.ret, .slice A8 nb2 k8] 32 (0,0)):=by rw [←hV4.out];exact put4 h53
   have o1':=hide (o1.kept (w':=V4) fun k hk _=>by rw [←hV4.out];exact Z8 _ _ _ _ _ (show k≠N5 by omega))
   have o2':=hide (o2.kept (w':=V4) fun k hk _=>by rw [←hV4.out];exact Z8 _ _ _ _ _ (show k≠N5 by omega))
   refine hd4 h53 hPh o1 o2 ?_;clear h53 hPh o1 o2;intro h53 hPh o1 o2
   go_upto_region 6 with(fail)
   rw [hV4.out]
   clear z0 z1 z2 z3 w0 w1 w2 w3
   obtain⟨i0,i1,i2,i3⟩:=bx4 h54
   replace h54:=hide h54
   have hRV:=(hV4W.block Nr hNrW).trans hR0.out
   obtain⟨n0,n1,n2,n3⟩:=bx4 hRV
   obtain⟨g0,g1,g2,g3⟩:=bf4 hRV
   replace hRV:=hide hRV
   go_wp2
   refine bodyPost_ret (v := .tuple #[f.v (.slice A7 np k7) (.slice A8 nb2 k8), .bool true]) (by simp [results,Tryz.results11,go_sem,n0,n1,n2,n3,g0,g1,g2,g3]) rfl ?_
   rw [hresE.out]
   have hwV:=hwW.out.trans (hV4W.mono hws)
   have hfin:=(((hwV.setCell (p:=⟨Nr,0,none⟩) hNrw (.string f.name)).setCell (p:=⟨Nr,1,none⟩) hNrw (.slice A7 np k7)).setCell (p:=⟨Nr,2,none⟩) hNrw (.int .i64 f.ret)).setCell (p:=⟨Nr,3,none⟩) hNrw (.slice A8 nb2 k8)
   exact⟨hfin,_,_,rfl,(o1'.out.kept fun k hk _=>Z8 _ _ _ _ _ (show k≠Nr by omega)).mono (by omega),(o2'.out.kept fun k hk _=>Z8 _ _ _ _ _ (show k≠Nr by omega)).mono (by omega)⟩
  | none =>
   rintro e V3 ⟨hb3,rfl⟩
   have hV3s:=hb3.size
   have h53:=(hb3.block N5 hN5V).trans h5.out
   obtain⟨z0,z1,z2,z3⟩:=bx4 h53
   obtain⟨w0,w1,w2,w3⟩:=bf4 h53
   have hN50:V0.heap.size≤N5:=by have:=hN5.out;omega
   have hV3W:Below V0.heap.size V0 V3:=hV02.trans (hb3.mono hV2s)
   obtain⟨V4,hV4⟩:∃V4,Hid ((((V3.setCell ⟨N5,0,none⟩ (.string f.name)).setCell ⟨N5,1,none⟩ (.slice A1 np k1)).setCell ⟨N5,2,none⟩ (.int .i64 f.ret)).setCell ⟨N5,3,none⟩ (.slice A2 n k2)=V4):=⟨_,hide rfl⟩
   have hV04:Below V0.heap.size V0 V4:=by
    rw [←hV4.out]
    exact(((hV3W.setCell (p:=⟨N5,0,none⟩) hN50 _).setCell (p:=⟨N5,1,none⟩) hN50 _).setCell (p:=⟨N5,2,none⟩) hN50 _).setCell (p:=⟨N5,3,none⟩) hN50 _
   have hV4W:Below W.heap.size W V4:=hb0.trans (hV04.mono hV0s)
   have cB:Hid (Calls Tryz.prog 32 #[f.v (.slice A1 np k1) (.slice A2 n k2), .slice (some ⟨gR,0,none⟩) n n] V4 (MayPost f (.slice A1 np k1) (.slice A2 n k2) (Yb4 R f.blocks) V4)):=hide (by
    have h9:=rblocks17_any f R gR (.slice A1 np k1) (.slice A2 n k2) V4 V4.heap.size (Nat.le_refl _) (hF.out V4 hV4W) hs.out hpre.out.wf hRn.out (hrow0.out V4 hV04) hpre.out.js
    rwa [←hn.out] at h9)
   have hV4s:=hV4W.size
   refine hd2 h53 hPh ?_;clear h53 hPh;intro h53 hPh
   go_upto_region 6 with(fail)
   rw [hV4.out]
   clear z0 z1 z2 z3 w0 w1 w2 w3
   have x0V:=x0 V4 hV4W
   have x1V:=x1 V4 hV4W
   have x2V:=x2 V4 hV4W
   have x3V:=x3 V4 hV4W
   go_wp2_with (fail)
   refine cB.out.mono ?_
   clear cB x0V x1V x2V x3V
   cases hBl:Yb4 R f.blocks with
   | some bsE =>
    rintro e V5 ⟨hb5,c9,d9,rfl,o1,o2⟩
    have hV5s:=hb5.size
    obtain⟨A7,k7,hcf⟩:=Yd o1.row
    subst hcf
    obtain⟨A8,k8,hdf⟩:=o2.form0'
    subst hdf
    obtain⟨nb2,hnb2⟩:∃x,Hid (x=bsE.length):=⟨_,hide rfl⟩
    rw [←hnb2.out] at o2⊢
    rw [←hnp.out] at o1⊢
    have hresE:Hid (res=some bsE):=hide (by rw [hsr.out,hE.out,hPh.out,hBl];rfl)
    have hV5W:Below W.heap.size W V5:=hV4W.trans (hb5.mono hV4s)
    have o1':=hide o1
    have o2':=hide o2
    replace hBl:=hide hBl
    clear o1 o2
    have hRV:=(hV5W.block Nr hNrW).trans hR0.out
    obtain⟨n0,n1,n2,n3⟩:=bx4 hRV
    obtain⟨g0,g1,g2,g3⟩:=bf4 hRV
    replace hRV:=hide hRV
    go_wp2
    refine bodyPost_ret (v := .tuple #[f.v (.slice A7 np k7) (.slice A8 nb2 k8), .bool true]) (by simp [results,Tryz.results11,go_sem,n0,n1,n2,n3,g0,g1,g2,g3]) rfl ?_
    rw [hresE.out]
    have hwV:=hwW.out.trans (hV5W.mono hws)
    have hfin:=(((hwV.setCell (p:=⟨Nr,0,none⟩) hNrw (.string f.name)).setCell (p:=⟨Nr,1,none⟩) hNrw (.slice A7 np k7)).setCell (p:=⟨Nr,2,none⟩) hNrw (.int .i64 f.ret)).setCell (p:=⟨Nr,3,none⟩) hNrw (.slice A8 nb2 k8)
    exact⟨hfin,_,_,rfl,(o1'.out.kept fun k hk _=>Z8 _ _ _ _ _ (show k≠Nr by omega)).mono (by omega),(o2'.out.kept fun k hk _=>Z8 _ _ _ _ _ (show k≠Nr by omega)).mono (by omega)⟩
   | none =>
    rintro e V5 ⟨hb5,rfl⟩
    have hresE:Hid (res=none):=hide (by rw [hsr.out,hE.out,hPh.out,hBl];rfl)
    have hV5W:Below W.heap.size W V5:=hV4W.trans (hb5.mono hV4s)
    replace hBl:=hide hBl
    have hRV:=(hV5W.block Nr hNrW).trans hR0.out
    obtain⟨n0,n1,n2,n3⟩:=bx4 hRV
    obtain⟨g0,g1,g2,g3⟩:=bf4 hRV
    replace hRV:=hide hRV
    go_wp2
    refine bodyPost_ret (v := .tuple #[f.v (.slice A1 np k1) (.slice A2 n k2), .bool false]) (by simp [results,Tryz.results11,go_sem,n0,n1,n2,n3,g0,g1,g2,g3]) rfl ?_
    rw [hresE.out]
    have hwV:=hwW.out.trans (hV5W.mono hws)
    have hfin:=(((hwV.setCell (p:=⟨Nr,0,none⟩) hNrw (.string f.name)).setCell (p:=⟨Nr,1,none⟩) hNrw (.slice A1 np k1)).setCell (p:=⟨Nr,2,none⟩) hNrw (.int .i64 f.ret)).setCell (p:=⟨Nr,3,none⟩) hNrw (.slice A2 n k2)
    exact⟨hfin,rfl⟩
section
variable {bs:List (List Ins)}
theorem stepS_cases (bs:List (List Ins)):Yam bs=((Qe (Yw bs) bs).or ((Ya9 (Yw bs) bs).or ((Qw (Yw bs) bs).or ((Yal (Yw bs) bs).or (Q5 (Zw (Yo bs) bs.length) bs))))):=by
 have e:List.range 5 = [0,1,2,3,4]:=rfl
 unfold Yam
 rw [e]
 cases h0:Qe (Yw bs) bs with
 | some x=>simp [Qd,h0]
 | none =>
  cases h1:Ya9 (Yw bs) bs with
  | some x=>simp [Qd,h0,h1]
  | none =>
   cases h2:Qw (Yw bs) bs with
   | some x=>simp [Qd,h0,h1,h2]
   | none =>
    cases h3:Yal (Yw bs) bs with
    | some x=>simp [Qd,h0,h1,h2,h3]
    | none =>
     cases h4:Q5 (Zw (Yo bs) bs.length) bs with
     | some x=>simp [Qd,h0,h1,h2,h3,h4]
     | none=>simp [Qd,h0,h1,h2,h3,h4]
end
theorem mg_facts {bs : List (List Ins)} {a : Nat} (h : TInv bs) (hal : a < bs.length) (h1 : mgB (Zw (Yo bs) bs.length) bs a = true) :
  ∃(b:Nat) (la lb:List Ins),b=mgTo bs a∧b≠a∧1≤b∧b<bs.length∧bs[a]? = some la∧bs[b]? = some lb∧(∀c,Qt bs a c↔c=(b:Int))∧(∀p,Qt bs p (b:Int)→p=a)∧∀y,y∈lb→y.op≠25:=by
 obtain⟨la,hla⟩:∃la,bs[a]? = some la:=⟨_,Jg hal⟩
 unfold mgB at h1
 cases he:endI bs a with
 | none=>rw [he] at h1;cases h1
 | some x =>
  rw [he] at h1
  simp only [Bool.and_eq_true,decide_eq_true_eq,Bool.not_eq_true',decide_eq_false_iff_not] at h1
  obtain⟨⟨⟨h31,hba⟩,hP1⟩,h25⟩:=h1
  have hx:la.getLast? = some x:=by rw [←Zi hla];exact he
  have hxm:=List.mem_of_getLast? hx
  have hLa:=h.loc a la hla
  have hto1:=hLa.wf.br x hxm h31
  obtain⟨tb,hto⟩:∃tb,x.to = [tb]:=by
   match h9:x.to,hto1 with
   | [t],_=>exact⟨t,rfl⟩
  have htb:1≤tb∧tb<bs.length:=⟨(hLa.fin x hx).2.2 tb (by rw [hto];simp),(hLa.wf.to_ x hxm tb (by rw [hto];simp)).2⟩
  obtain⟨b,hb⟩:∃b,b=mgTo bs a:=⟨_,rfl⟩
  rw [←hb] at hba hP1 h25
  have hbt:(b:Int)=tb:=by
   rw [hb]
   unfold mgTo
   rw [he]
   simp only [Option.map_some,hto,Option.getD_some,Jq,List.getElem?_cons_zero]
   omega
  have hbl:b<bs.length:=by omega
  obtain⟨lb,hlb⟩:∃lb,bs[b]? = some lb:=⟨_,Jg hbl⟩
  have hgb:bs.getD b []=lb:=by rw [Jq,hlb];rfl
  rw [hgb] at h25
  have hendA:∀c,Qt bs a c↔c=(b:Int):=fun c=>by
   unfold Qt
   rw [he]
   constructor
   ·rintro ⟨y, hy, -, hc⟩
    cases hy
    rw [hto] at hc
    rw [hbt]
    exact List.mem_singleton.1 hc
   ·intro hc
    exact⟨x,rfl, .inl h31,by rw [hto,hc,hbt];simp⟩
  refine⟨b,la,lb,hb,hba,by omega,hbl,hla,hlb,hendA,fun p hp => ?_,fronts_none (h.loc b lb hlb).fr h25⟩
  have hpl:=Yb0 hp
  have e1:(Zw (Yo bs) bs.length).getD b []=Q3 (Yo bs) b bs.length:=by
   unfold Zw
   rw [Jq,List.getElem?_map,List.getElem?_range hbl]
   rfl
  rw [e1] at hP1
  unfold Q3 at hP1
  rw [List.length_map] at hP1
  have m1:p∈(List.range bs.length).filter fun(x:Nat)=>decide ((b:Int)∈Yo bs (x:Int)):=List.mem_filter.2 ⟨List.mem_range.2 hpl,by simpa using (Ya3 ⟨by omega,by omega⟩).1 hp⟩
  have m2:a∈(List.range bs.length).filter fun(x:Nat)=>decide ((b:Int)∈Yo bs (x:Int)):=List.mem_filter.2 ⟨List.mem_range.2 hal,by simpa using (Ya3 ⟨by omega,by omega⟩).1 ((hendA b).2 rfl)⟩
  obtain⟨z,hz⟩:=List.length_eq_one_iff.1 hP1
  rw [hz] at m1 m2
  rw [List.mem_singleton.1 m1,List.mem_singleton.1 m2]
theorem noPhi_lone {l:List Ins} {i:Nat} {x:Ins} (hf:Ycm l) (hx:l[i]? = some x) (h25:x.op=25) (h:Q7 l=none):Ya2 x=none:=by
 have hi:i<(l.takeWhile Ybb).length:=front_ge (fun j y hj hy=>hf j i y x hy hx hj h25) (Js.1 hx).1
 unfold Q7 at h
 rw [List.find?_eq_none] at h
 have:=h i (List.mem_range.2 hi)
 rw [hx] at this
 cases hv:Ya2 x with
 | none=>rfl
 | some v=>simp [hv] at this
end Go.Proofs.YtamjcafjdioidaaGreat
