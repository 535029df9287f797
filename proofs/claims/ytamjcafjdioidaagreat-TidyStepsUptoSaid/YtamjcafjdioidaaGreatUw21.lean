/- Texts of the chain, without what is not wanted: RfL. No condition but sizes. -/
import Derived.Test.YtamjcafjdioidaaGreatUw20
set_option linter.unusedVariables false
set_option linter.unusedSimpArgs false
set_option maxRecDepth 100000
set_option maxHeartbeats 12800000
namespace Go.Proofs.YtamjcafjdioidaaGreat
open Go.RowKit
def loseIB (p:Nat) (bs:List (List Ins)) (o:Int):List (List Ins):=bs.set o.toNat ((bs.getD o.toNat []).map (Zg [(p:Int)]))
def decAt17 (bs:List (List Ins)) (b:Nat) (o:Int×Int):List (List Ins):=if o.2=o.1 then bs.set b (setEnd (bs.getD b []) (brJ o.1)) else loseIB b (bs.set b (setEnd (bs.getD b []) (brJ o.1))) o.2
def endsS (R:List Bool) (bs:List (List Ins)):Option (List (List Ins)):=(((List.range bs.length).find? (dcB R bs)).map fun b=>decAt17 bs b (((endI bs b).map Yad).getD (0,0))).or (Ya9 R bs)
theorem ends_found {R:List Bool} {bs:List (List Ins)} {b:Nat} {x:Ins} (hb:b<bs.length) (h:dcB R bs b=true) (hno:∀j,j<b→dcB R bs j=false) (hx:endI bs b=some x):endsS R bs=some (decAt17 bs b (Yad x)):=by
 unfold endsS
 rw [Qk hb h hno,Option.map_some,hx]
 rfl
theorem ends_twice {R:List Bool} {bs:List (List Ins)} {b:Nat} {x:Ins} (hno1:∀j,j<bs.length→dcB R bs j=false) (hb:b<bs.length) (h:twB R bs b=true) (hno:∀j,j<b→twB R bs j=false) (hx:endI bs b=some x):endsS R bs=some (bs.set b (setEnd (bs.getD b []) (brJ (x.to.getD 0 0)))):=by
 unfold endsS Ya9
 rw [Zd hno1,Qk hb h hno,Option.map_some,hx]
 rfl
theorem ends_none {R:List Bool} {bs:List (List Ins)} (hno1:∀j,j<bs.length→dcB R bs j=false) (hno:∀j,j<bs.length→twB R bs j=false):endsS R bs=none:=by
 unfold endsS Ya9
 rw [Zd hno1,Zd hno]
 rfl
def MayPost (f:Fun) (c1 d1:Value) (res:Option (List (List Ins))) (w:World) (e:Ending) (w':World):Prop:=Below w.heap.size w w'∧match res with
 | none=>e = .returned (.tuple #[f.v c1 d1, .bool false])
 | some bs=>∃c d,e = .returned (.tuple #[f.v c d, .bool true])∧OwnI w' w.heap.size c f.params∧OwnK w' w.heap.size d bs
theorem rins_open {x:Ins} {ca ct:Value} {V:World} (h:RIns.rep V V.heap.size [.int .i64 x.op, .int .i64 x.reg, .int .i64 x.ty, .int .i64 x.num, .int .i64 x.flags,ca,ct] x):∃A5 k5 A6 k6,ca = .slice A5 x.args.length k5∧ct = .slice A6 x.to.length k6∧I64 x.op∧
  (0<x.args.length→∃g o,A5=some ⟨g,o,none⟩∧∀a,x.args[0]? = some a→∀w',Below V.heap.size V w'→w'.cell? ⟨g,o,none⟩=some (.int .i64 a.kind)∧w'.cell? ⟨g,o+2,none⟩=some (.int .u64 a.bits))∧
  (0<x.to.length→∃g o,A6=some ⟨g,o,none⟩∧∀(i:Nat) t,x.to[i]? = some t→I64 t∧∀w',Below V.heap.size V w'→w'.cell? ⟨g,o+i,none⟩=some (.int .i64 t)):=by
 obtain⟨a1,a2,hcs,ha,hto,hop, -⟩:=h
 cases hcs
 obtain⟨A5,k5,h5, -,g5⟩:=Rp.slice_open ha
 cases h5
 obtain⟨A6,k6,h6, -,g6⟩:=Rp.slice1_open hto
 cases h6
 refine⟨A5,k5,A6,k6,rfl,rfl,hop,fun h => ?_,fun h => ?_⟩
 ·obtain ⟨b, o, h1, h2⟩ := g5 h
  refine⟨b,o,h1,fun a h3 w' h4 => ?_⟩
  obtain⟨es, -,⟨h5, -⟩,h6⟩:=h2 0 a h3
  have h5:es=_:=h5
  subst h5
  have h7:=h6.three
  rw [Nat.zero_mul,Nat.add_zero] at h7
  exact⟨h7.1 w' h4,h7.2.2 w' h4⟩
 ·obtain ⟨b, o, h1, h2⟩ := g6 h
  refine⟨b,o,h1,fun i t h3 => ?_⟩
  obtain⟨c,⟨h5,h7⟩,h6⟩:=h2 i t h3
  have h5 : [c] = [.int .i64 t]:=h5
  cases h5
  exact⟨h7,h6⟩
theorem OwnK.kept_box {u u':World} {B k:Nat} {d:Value} {bs:List (List Ins)} {cs:Array Value} (h:OwnK u B d bs) (hk:u.heap[k]? = some (.cells cs 32 (0,0))) (ho:∀j,j≠k→u'.heap[j]? = u.heap[j]?):OwnK u' B d bs:=by
 obtain⟨xs,h1,h2,h3⟩:=h.body
 have ht:∃c,u.heap[k]? = some (.cells c 32 (0,0)):=⟨cs,hk⟩
 refine⟨xs,h1,Yc h2 fun j hj=>ho j (Z7 (Ya h2 hj).2.2 ht (by decide)),fun i x b hx hb => ?_⟩
 obtain⟨ess,g1,g2,g3⟩:=(h3 i x b hx hb).body
 refine⟨ess,g1,Yc g2 fun j hj=>ho j (Z7 (Ya g2 hj).2.2 ht (by decide)),fun q es y hq hy => ?_⟩
 obtain⟨c,d',e1,e2,e3,e4⟩:=g3 q es y hq hy
 exact⟨c,d',e1,⟨Yc e2.row fun j hj=>ho j (Z7 (Ya e2.row hj).2.2 ht (by decide)),e2.ok⟩,⟨Yc e3.row fun j hj=>ho j (Z7 (Ya e3.row hj).2.2 ht (by decide)),e3.ok⟩,e4⟩
theorem OwnI.kept_box {u u':World} {B k:Nat} {c:Value} {l:List Int} {cs:Array Value} (h:OwnI u B c l) (hk:u.heap[k]? = some (.cells cs 32 (0,0))) (ho:∀j,j≠k→u'.heap[j]? = u.heap[j]?):OwnI u' B c l:=⟨Yc h.row fun j hj=>ho j (Z7 (Ya h.row hj).2.2 ⟨cs,hk⟩ (by decide)),h.ok⟩
structure EnSt (V u : World) (f : Fun) (bs : List (List Ins)) (t : Int) (iN iJ : Option Nat) (iR : Option (Value × Value)) : Prop where
 bel:Below V.heap.size V u
 hN:∀k,iN=some k→V.heap.size≤k∧u.heap[k]? = some (.cells #[.string ⟨#[]⟩, .slice none 0 0, .int .i64 0, .slice none 0 0] 32 (0,0))
 hJ:∀k,iJ=some k→V.heap.size≤k∧OwnI u 0 (.slice (some ⟨k,0,none⟩) 1 1) [t]
 hR:∀p,iR=some p→OwnI u V.heap.size p.1 f.params∧OwnK u V.heap.size p.2 bs
section
variable {V u u':World} {f:Fun} {bs:List (List Ins)} {t:Int} {iN iJ:Option Nat} {iR:Option (Value×Value)}
theorem EnSt.start (h:Below V.heap.size V u):EnSt V u f bs t none none none:=⟨h,fun _ h=>(by cases h),fun _ h=>(by cases h),fun _ h=>(by cases h)⟩
theorem EnSt.later (h:EnSt V u f bs t iN iJ iR) (hb:Below u.heap.size u u'):EnSt V u' f bs t iN iJ iR:=by
 refine⟨h.bel.trans (hb.mono h.bel.size),fun k hk => ?_,fun k hk => ?_,fun p hp => ?_⟩
 ·obtain ⟨h1, h2⟩ := h.hN k hk
  exact⟨h1,(hb.block k (Array.getElem?_eq_some_iff.1 h2).1).trans h2⟩
 ·obtain ⟨h1, h2⟩ := h.hJ k hk
  exact⟨h1,h2.kept fun j _ hj=>hb.block j hj⟩
 ·obtain ⟨h1, h2⟩ := h.hR p hp
  exact⟨h1.kept fun j _ hj=>hb.block j hj,h2.kept fun j _ hj=>hb.block j hj⟩
theorem EnSt.boxN (h:EnSt V u f bs t none iJ iR):EnSt V (u.alloc (.cells #[.string ⟨#[]⟩, .slice none 0 0, .int .i64 0, .slice none 0 0] 32)) f bs t (some u.heap.size) iJ iR:=by
 have h9:=h.later (u':=u.alloc (.cells #[.string ⟨#[]⟩, .slice none 0 0, .int .i64 0, .slice none 0 0] 32)) ((Below.refl _ _).alloc (Nat.le_refl _) _)
 exact⟨h9.bel,fun k hk=>by cases hk;exact⟨h.bel.size,heap_alloc_new u _⟩,h9.hJ,h9.hR⟩
theorem EnSt.jump {e:Ending} (h:EnSt V u f bs t iN none iR) (hj:JumpP t u e u'):∃g,e = .returned (.agg #[.int .i64 31, .int .i64 (-1), .int .i64 0, .int .i64 0, .int .i64 0, .slice none 0 0, .slice (some ⟨g,0,none⟩) 1 1])∧EnSt V u' f bs t iN (some g) iR:=by
 obtain⟨g,h1,h2,h3⟩:=hj
 have h9:=h.later h3
 refine⟨g,h1,h9.bel,h9.hN,fun k hk => ?_,h9.hR⟩
 cases hk
 exact⟨Nat.le_trans h.bel.size (Ya h2.row rfl).1,h2.mono (Nat.zero_le _)⟩
theorem EnSt.ended {e:Ending} {g:Nat} (h:EnSt V u f bs t iN (some g) none) (hj:GivesB (min g u.heap.size) f bs u e u'):∃c d,e = .returned (f.v c d)∧EnSt V u' f bs t iN (some g) (some (c,d)):=by
 obtain⟨c,d,h1,h2,h3,h4⟩:=hj
 have h9:=h.later h4
 refine⟨c,d,h1,h9.bel,h9.hN,h9.hJ,fun p hp => ?_⟩
 cases hp
 have hg:=(h.hJ g rfl).1
 have hb:=h.bel.size
 exact⟨h2.mono (by omega),h3.mono (by omega)⟩
end
def Boxed (w:World) (B N:Nat) (f:Fun) (bs:List (List Ins)):Prop:=∃A np C A' n C',w.heap[N]? = some (.cells #[.string f.name, .slice A np C, .int .i64 f.ret, .slice A' n C'] 32 (0,0))∧np=f.params.length∧n=bs.length∧OwnI w B (.slice A np C) f.params∧OwnK w B (.slice A' n C') bs
theorem OwnK.form0' {w:World} {B:Nat} {v:Value} {bs:List (List Ins)} (h:OwnK w B v bs):∃A C,v = .slice A bs.length C:=by
 obtain⟨xs, -,hr, -⟩:=h.body
 exact Yd hr
theorem ownI_one17 {w:World} {t:Int} (ht:I64 t):OwnI (w.alloc (.cells #[.int .i64 t] 3)) 0 (.slice (some ⟨w.heap.size,0,none⟩) 1 1) [t]:=by
 have hq:=Yu w (.cells #[.int .i64 t] 3)
 exact⟨⟨rfl, .inr ⟨_,1,_,rfl,by omega,by simpa using hq,Nat.le_refl _,by unfold maxLen;omega,rfl,rfl⟩⟩,fun x hx=>by rw [List.mem_singleton.1 hx];exact ht⟩
theorem Z8 (w:World) {N k:Nat} (x0 x1 x2 x3:Value) (e1:k≠N):((((w.setCell ⟨N,0,none⟩ x0).setCell ⟨N,1,none⟩ x1).setCell ⟨N,2,none⟩ x2).setCell ⟨N,3,none⟩ x3).heap[k]? = w.heap[k]? := by
 rw [Below.heap_setCell _ ⟨N,3,none⟩ _ _ e1,Below.heap_setCell _ ⟨N,2,none⟩ _ _ e1,Below.heap_setCell _ ⟨N,1,none⟩ _ _ e1,Below.heap_setCell _ ⟨N,0,none⟩ _ _ e1]
theorem Boxed.later {w w':World} {B N:Nat} {f:Fun} {bs:List (List Ins)} (h:Boxed w B N f bs) (hb:Below w.heap.size w w'):Boxed w' B N f bs:=by
 obtain⟨A,np,C,A',n,C',h1,h2,h3,h4,h5⟩:=h
 exact⟨A,np,C,A',n,C',(hb.block N (Array.getElem?_eq_some_iff.1 h1).1).trans h1,h2,h3,h4.kept fun k _ hk=>hb.block k hk,h5.kept fun k _ hk=>hb.block k hk⟩
theorem small_end {f:Fun} {b:Nat} {l:List Ins} {t:Int} (hs:Zo f) (hl:f.blocks[b]? = some l):Zo (Ye f (f.blocks.set b (setEnd l (brJ t)))):=by
 refine⟨hs.params,by show(f.blocks.set b _).length≤_;rw [List.length_set];exact hs.blocks,fun x hx => ?_⟩
 rcases List.mem_or_eq_of_mem_set hx with h|h
 ·exact hs.code x h
 ·subst h
  have h9:=hs.code l (Jm hl)
  refine⟨by unfold setEnd;rw [List.length_set];exact h9.1,fun i hi => ?_⟩
  rcases List.mem_or_eq_of_mem_set hi with h|h
  ·exact h9.2 i h
  ·subst h;exact⟨by simp [brJ],by simp [brJ]⟩
theorem phi_end {bs:List (List Ins)} {b:Nat} {l:List Ins} {t:Int} (hw:∀l,l∈bs→PhiLen l) (hl:bs[b]? = some l):∀l',l'∈bs.set b (setEnd l (brJ t))→PhiLen l':=fun l' h=>by
 rcases List.mem_or_eq_of_mem_set h with h|h
 ·exact hw l' h
 ·subst h;exact phiLen_setEnd (hw l (Jm hl)) (show(31:Int)≠25 by decide)
theorem box_put {w : World} {N B np n : Nat} {A A' : Option Addr} {C C' : Nat} {x0 x1 x2 x3 : Value} {f : Fun} {bs : List (List Ins)} (h : w.heap[N]? = some (.cells #[x0, x1, x2, x3] 32 (0, 0))) (hn : np = f.params.length) (hm : n = bs.length) (h1 : OwnI w B (.slice A np C) f.params) (h2 : OwnK w B (.slice A' n C') bs) :
  Boxed ((((w.setCell ⟨N,0,none⟩ (.string f.name)).setCell ⟨N,1,none⟩ (.slice A np C)).setCell ⟨N,2,none⟩ (.int .i64 f.ret)).setCell ⟨N,3,none⟩ (.slice A' n C')) B N f bs:=by
 have ho:∀j,j≠N→((((w.setCell ⟨N,0,none⟩ (.string f.name)).setCell ⟨N,1,none⟩ (.slice A np C)).setCell ⟨N,2,none⟩ (.int .i64 f.ret)).setCell ⟨N,3,none⟩ (.slice A' n C')).heap[j]? = w.heap[j]? := fun j e1=>by
  rw [Below.heap_setCell _ ⟨N,3,none⟩ _ _ e1,Below.heap_setCell _ ⟨N,2,none⟩ _ _ e1,Below.heap_setCell _ ⟨N,1,none⟩ _ _ e1,Below.heap_setCell _ ⟨N,0,none⟩ _ _ e1]
 exact⟨A,np,C,A',n,C',put4 h,hn,hm,h1.kept_box h ho,h2.kept_box h ho⟩
theorem rends17_any (f : Fun) (R : List Bool) (gR : Nat) (c1 d1 : Value) (w : World) (B : Nat) (hB : B ≤ w.heap.size) (hf : RFun.rep w B [.string f.name, c1, .int .i64 f.ret, d1] f) (hs : Zo f) (hwf : Wf f.blocks) (hRn : R.length = f.blocks.length) (hR : w.ownsRow 0 4 1 (.slice (some ⟨gR, 0, none⟩) f.blocks.length f.blocks.length) f.blocks.length (R.map Value.bool)) :
  Calls Tryz.prog 30 #[f.v c1 d1, .slice (some ⟨gR,0,none⟩) f.blocks.length f.blocks.length] w (MayPost f c1 d1 (endsS R f.blocks) w):=by
 obtain⟨-, -, -, -, -,hret,hnm⟩:=id hf
 obtain⟨hp,hb⟩:=Yk (RFun.later hf (Below.refl _ _) hB)
 obtain⟨A1,k1,h1, -, -⟩:=Rp.slice1_open hp
 obtain⟨A2,k2,h2,hm2, -⟩:=Rp.slice1_open hb
 cases h1;cases h2
 clear hp hb hm2
 obtain⟨n,hn⟩:=Jn (f.blocks.length)
 obtain⟨np,hnp⟩:∃n,Hid (n=f.params.length):=⟨_,hide rfl⟩
 have hnle:n≤2000000:=by rw [hn.out];exact hs.blocks
 rw [←hn.out,←hnp.out] at hf
 rw [←hnp.out]
 rw [←hn.out] at hR hRn⊢
 obtain⟨-,hRr⟩:=Yas hR
 obtain⟨res,hres⟩:=Jn (endsS R f.blocks)
 rw [←hres.out]
 obtain⟨W,hW,hwW,hWs,hx1,hx2⟩:=Ql w #[.string f.name, .slice A1 np k1, .int .i64 f.ret, .slice A2 n k2] #[.string ⟨#[]⟩, .slice none 0 0, .int .i64 0, .slice none 0 0] 32 32
 obtain⟨Nr,hNr⟩:=Jn (w.heap.size+1)
 have hR0:W.heap[Nr]? = some (.cells #[.string ⟨#[]⟩, .slice none 0 0, .int .i64 0, .slice none 0 0] 32 (0,0)):=by
  rw [←hW,hNr.out]
  have:=Yu (w.alloc (.cells #[.string f.name, .slice A1 np k1, .int .i64 f.ret, .slice A2 n k2] 32)) (.cells #[.string ⟨#[]⟩, .slice none 0 0, .int .i64 0, .slice none 0 0] 32)
  simpa using this
 have hself:=Below.refl W.heap.size W
 have x0:=hx1 0 _ rfl
 have x1:=hx1 1 _ rfl
 have x2:=hx1 2 _ rfl
 have x3:=hx1 3 _ rfl
 have hNrW:Nr<W.heap.size:=(Array.getElem?_eq_some_iff.1 hR0).1
 have hNrw:w.heap.size≤Nr:=by have:=hNr.out;omega
 have hws:w.heap.size≤W.heap.size:=hwW.size
 have hF:Hid (∀w',Below W.heap.size W w'→RFun.rep w' w'.heap.size [.string f.name, .slice A1 np k1, .int .i64 f.ret, .slice A2 n k2] f):=hide (fun w' h=>RFun.later hf ((hwW.trans (h.mono hws)).mono hB) (by have:=h.size;omega))
 have hRw:Hid (∀(k:Nat) r,R[k]? = some r→∀w',Below W.heap.size W w'→w'.cell? ⟨gR,k,none⟩=some (.bool r)):=hide (fun k r hk w' h=>hRr k r hk w' (hwW.trans (h.mono hws)))
 have hno0:Hid (∀j,j<0→dcB R f.blocks j=false):=hide (fun j hj=>absurd hj (Nat.not_lt_zero _))
 have hnt0:Hid (∀j,j<0→twB R f.blocks j=false):=hide (fun j hj=>absurd hj (Nat.not_lt_zero _))
 refine hd11 hR0 hs hf hwW hWs hW hret hnm hwf hRn hR ?_;clear hR0 hs hf hwW hWs hW hret hnm hwf hRn hR;intro hR0 hs hf hwW hWs hW hret hnm hwf hRn hR
 clear hx1 hx2 hRr
 go_enter Tryz.func30,Tryz.ntmps30
 go_upto_region 1 with(fail)
 rw [hW.out,←hNr.out]
 have x3W:=x3 W hself
 go_wp2
 go_loopw [6] (fun s wr=>∃b:Nat,s = .int .i64 b∧b≤n∧Hid (∀j,j<b→dcB R f.blocks j=false)∧Below W.heap.size W wr) (fun s _=>n - (intOf s).toNat)
 case atStart=>exact⟨0,rfl,Nat.zero_le _,hno0,hself⟩
 case round =>
  clear hno0 hself x3W
  rename World=>V
  obtain⟨b,rfl,hb,hno,hbV⟩:=hrel
  have hVs:=hbV.size
  have x0V:=x0 V hbV
  have x1V:=x1 V hbV
  have x2V:=x2 V hbV
  have x3V:=x3 V hbV
  by_cases hlt:b<n
  ·have hbi : (b : Int) < (n : Int) := by omega
   have hb64:Hid (I64 (b:Int)):=hide (Ybz (by omega) (by omega))
   obtain⟨l,hl⟩:=Yf (l:=f.blocks) (k:=b) (by rw [←hn.out];exact hlt)
   have hwl:=hide (hwf.out l (Jm hl.out))
   obtain⟨q,hq⟩:∃q,Hid (l.length=q+1):=⟨l.length - 1,hide (by have:=List.length_pos_iff.2 hwl.out.ne;omega)⟩
   obtain⟨ins,hins⟩:=Yf (l:=l) (k:=q) (by have:=hq.out;omega)
   have hend:=hide (endI_at hl.out hq.out hins.out)
   have hmem:=hide (Jm hins.out)
   obtain⟨rb,hrb⟩:=Yf (l:=R) (k:=b) (by rw [hRn.out];exact hlt)
   have hLs:=hide (rlast_any f b q l ins (.slice A1 np k1) (.slice A2 n k2) V V.heap.size (Nat.le_refl _) (hF.out V hbV) hl.out hq.out hins.out)
   have hstep:Hid (dcB R f.blocks b=false→∀j,j<b+1→dcB R f.blocks j=false):=hide (fun h9 j hj=>by
    rcases Nat.lt_succ_iff_lt_or_eq.1 hj with h1|h1
    ·exact hno.out j h1
    ·rw [h1];exact h9)
   have hgetR:Hid (R.getD b false=rb):=hide (by rw [Jq,hrb.out];rfl)
   go_wp2_with (fail)
   refine hLs.out.mono ?_
   rintro e V1 ⟨ca,ct,rfl,hri,hb1⟩
   obtain⟨A5,k5,A6,k6,rfl,rfl,hop64,g5,g6⟩:=rins_open hri
   obtain⟨na,hna⟩:=Jn (ins.args.length)
   obtain⟨nt,hnt⟩:=Jn (ins.to.length)
   rw [←hna.out] at g5 hri⊢
   rw [←hnt.out] at g6 hri⊢
   obtain⟨V2,hV2,hb12,h2s,hxi⟩:=Y6 V1 #[.int .i64 ins.op, .int .i64 ins.reg, .int .i64 ins.ty, .int .i64 ins.num, .int .i64 ins.flags, .slice A5 na k5, .slice A6 nt k6] 44
   obtain⟨Ni,hNi⟩:=Jn (V1.heap.size)
   have i0:=hxi 0 _ rfl
   have i5:=hxi 5 _ rfl
   have i6:=hxi 6 _ rfl
   have hself2:=Below.refl V2.heap.size V2
   have hbV2:Below W.heap.size W V2:=(hbV.trans (hb1.mono hVs)).trans (hb12.mono (by have:=hb1.size;omega))
   have hgR2:=hRw.out b rb hrb.out V2 hbV2
   have i0V:=i0 V2 hself2
   have i5V:=i5 V2 hself2
   have i6V:=i6 V2 hself2
   rw [←hNi.out] at i0 i5 i6 i0V i5V i6V
   refine hd6 hV2 h2s hri hb1 hrb hop64 ?_;clear hV2 h2s hri hb1 hrb hop64;intro hV2 h2s hri hb1 hrb hop64
   clear hxi hLs x0V x1V x2V x3V hVs
   go_upto_region 5 with(fail)
   rw [hV2.out,←hNi.out]
   cases rb with
   | false =>
    have hnx:=hide (hstep.out (by unfold dcB;rw [hgetR.out];rfl))
    clear i0 i5 i6 g5 g6
    go_wp2
    go_roundw
    case rel=>exact⟨b+1,by go_num,hlt,hnx,hbV2⟩
    case measure=>simp [intOf];omega
   | true =>
   by_cases h32:ins.op=32
   case neg =>
    have hnx:=hide (hstep.out (by unfold dcB;rw [hgetR.out,hend.out];simp [h32]))
    have q32:(ins.op != 32)=true:=by simp [h32]
    replace h32:=hide h32
    clear i0 i5 i6 g5 g6
    go_wp2
    go_roundw
    case rel=>exact⟨b+1,by go_num,hlt,hnx,hbV2⟩
    case measure=>simp [intOf];omega
   have q32:(ins.op != 32)=false:=by simp [h32]
   obtain⟨ht2,ha1⟩:=hwl.out.brif ins hmem.out h32
   have hna1:0<na:=by rw [hna.out,ha1];omega
   have hnt2:nt=2:=by rw [hnt.out,ht2]
   subst hnt2
   obtain⟨ga,oa,rfl,ga5⟩:=g5 hna1
   obtain⟨gt,ot,rfl,gt6⟩:=g6 (by omega)
   obtain⟨a0,ha0⟩:=Yf (l:=ins.args) (k:=0) (by rw [ha1];omega)
   obtain⟨t0,ht0⟩:=Yf (l:=ins.to) (k:=0) (by rw [ht2];omega)
   obtain⟨t1,ht1⟩:=Yf (l:=ins.to) (k:=1) (by rw [ht2];omega)
   have ga50:=(ga5 a0 ha0.out V2 hb12).1
   have ga52:=(ga5 a0 ha0.out V2 hb12).2
   have gt60:=(gt6 0 t0 ht0.out).2 V2 hb12
   have gt61:=(gt6 1 t1 ht1.out).2 V2 hb12
   have ht064:Hid (I64 t0):=hide (gt6 0 t0 ht0.out).1
   have ht164:Hid (I64 t1):=hide (gt6 1 t1 ht1.out).1
   rw [Nat.add_zero] at gt60
   have hga:Hid (ins.args.getD 0 ⟨0,0,0⟩=a0):=hide (by rw [Jq,ha0.out];rfl)
   have hg0:Hid (ins.to.getD 0 0=t0):=hide (by rw [Jq,ht0.out];rfl)
   have hg1:Hid (ins.to.getD 1 0=t1):=hide (by rw [Jq,ht1.out];rfl)
   have hnai:(0:Int)<(na:Int):=by omega
   clear i0 i5 i6 ga5 gt6
   by_cases hk2:a0.kind=2
   case neg =>
    have hnx:=hide (hstep.out (by unfold dcB;rw [hgetR.out,hend.out];simp only [hga.out];simp [hk2]))
    have qk2:(a0.kind != 2)=true:=by simp [hk2]
    refine hd2 h32 hk2 ?_;clear h32 hk2;intro h32 hk2
    go_wp2
    go_roundw
    case rel=>exact⟨b+1,by go_num,hlt,hnx,hbV2⟩
    case measure=>simp [intOf];omega
   have qk2:(a0.kind != 2)=false:=by simp [hk2]
   have hfound:Hid (res=some (decAt17 f.blocks b (Yad ins))):=hide (by
    rw [hres.out]
    exact ends_found (by rw [←hn.out];exact hlt) (by unfold dcB;rw [hgetR.out,hend.out];simp only [hga.out];simp [hk2,h32]) hno.out hend.out)
   have htr:Hid (∀t,t∈ins.to→0≤t∧t<f.blocks.length):=hide (hwl.out.to_ ins hmem.out)
   refine hd2 h32 hk2 ?_;clear h32 hk2;intro h32 hk2
   obtain⟨bt,hbt⟩:=Jn ((a0.bits==1))
   have qbt:(a0.bits==1)=bt:=hbt.out.symm
   go_upto_if 54 with(fail)
   go_cut [8,9] (fun s8 s9 wx=>s8 = .int .i64 (Yad ins).1∧s9 = .int .i64 (Yad ins).2∧wx=V2)
   case first =>
    cases bt with
    | true =>
     have hgo:Hid (Yad ins=(t0,t1)):=hide (by unfold Yad;rw [hga.out,hg0.out,hg1.out,if_pos (by simpa using hbt.out.symm)])
     go_wp2
     go_meet
     rw [hgo.out]
     exact⟨rfl,rfl,rfl⟩
    | false =>
     have hgo:Hid (Yad ins=(t1,t0)):=hide (by unfold Yad;rw [hga.out,hg0.out,hg1.out,if_neg (by simpa using hbt.out.symm)])
     go_wp2
     go_meet
     rw [hgo.out]
     exact⟨rfl,rfl,rfl⟩
   case rest =>
   obtain⟨rfl,rfl,hwx⟩:=hcut
   obtain rfl:V2=_:=hwx.symm
   clear hwx qbt
   have hgm:(Yad ins).1∈ins.to∧(Yad ins).2∈ins.to:=by
    unfold Yad
    rw [hga.out,hg0.out,hg1.out]
    split
    ·exact⟨Jm ht0.out,Jm ht1.out⟩
    ·exact⟨Jm ht1.out,Jm ht0.out⟩
   obtain⟨tg,hto⟩:=Jn ((Yad ins).1)
   obtain⟨ot,hot⟩:=Jn ((Yad ins).2)
   rw [←hto.out,←hot.out] at hgm⊢
   have hgo:Hid (Yad ins=(tg,ot)):=hide (by rw [hto.out,hot.out])
   have hto64:Hid (I64 tg):=hide (by
    obtain⟨i9,h9⟩:=List.mem_iff_getElem?.1 hgm.1
    have h8:=(Js.1 h9).1
    rw [ht2] at h8
    rcases (show i9=0∨i9=1 by omega) with e9|e9
    ·rw [e9,ht0.out] at h9;cases h9;exact ht064.out
    ·rw [e9,ht1.out] at h9;cases h9;exact ht164.out)
   have hmo:=hide (htr.out ot hgm.2)
   rw [hgo.out] at hfound
   replace hgm:=hide hgm
   go_upto_region 11 with(fail)
   go_cut [10] (fun s wx=>∃Ng:Nat,s = .pointer (some ⟨Ng,0,none⟩)∧V2.heap.size≤Ng∧Hid (Boxed wx V2.heap.size Ng f (f.blocks.set b (setEnd l (brJ tg))))∧Below V2.heap.size V2 wx)
   case first =>
    have y0:∀w',Below V2.heap.size V2 w'→w'.cell? ⟨w.heap.size,0,none⟩=some (.string f.name):=fun w' h9=>x0 w' (hbV2.trans (h9.mono hbV2.size))
    have y1:∀w',Below V2.heap.size V2 w'→w'.cell? ⟨w.heap.size,1,none⟩=some (.slice A1 np k1):=fun w' h9=>x1 w' (hbV2.trans (h9.mono hbV2.size))
    have y2:∀w',Below V2.heap.size V2 w'→w'.cell? ⟨w.heap.size,2,none⟩=some (.int .i64 f.ret):=fun w' h9=>x2 w' (hbV2.trans (h9.mono hbV2.size))
    have y3:∀w',Below V2.heap.size V2 w'→w'.cell? ⟨w.heap.size,3,none⟩=some (.slice A2 n k2):=fun w' h9=>x3 w' (hbV2.trans (h9.mono hbV2.size))
    refine Y8 (S:=fun u=>Below V2.heap.size V2 u) (T:=fun _=>true) (by kernel_rfl) ?_
    obtain⟨R0,hR9⟩:∃R0,V2.drew=R0:=⟨_,rfl⟩
    have hS0:Hid (EnSt V2 R0 f (f.blocks.set b (setEnd l (brJ tg))) tg none none none):=hide (EnSt.start (by rw [←hR9];exact hself2.drew))
    rw [hR9]
    clear hR9
    refine Jt (i:=0) hS0.out.bel ?_
    refine Jt (i:=1) hS0.out.bel ?_
    refine Jt (i:=2) hS0.out.bel ?_
    refine Zp (rs := [3,5]) (by kernel_rfl) (by simp) ?_
    refine Yt.cons (by simp only [List.getElem?_toArray,List.getElem?_cons_succ,List.getElem?_cons_zero];rfl) (fun K hK => ?_) (Yt.cons (by simp only [List.getElem?_toArray,List.getElem?_cons_succ,List.getElem?_cons_zero];rfl) (fun K hK => ?_) (Yt.nil))
    ·(try go_simp)
     go_at_call 66
     refine(rbr_any tg hto64.out _).mono ?_
     rintro e R0j hj
     obtain⟨gj,rfl,hS0j⟩:=hS0.out.jump hj
     replace hS0j:=hide hS0j
     clear hj
     refine Jo hK (fun _=>hS0j.out.bel) ?_;clear hK K
     refine Zp (rs := [4,5]) (by kernel_rfl) (by simp) ?_
     refine Yt.cons (by simp only [List.getElem?_toArray,List.getElem?_cons_succ,List.getElem?_cons_zero];rfl) (fun K hK => ?_) (Yt.cons (by simp only [List.getElem?_toArray,List.getElem?_cons_succ,List.getElem?_cons_zero];rfl) (fun K hK => ?_) (Yt.nil))
     ·(try go_simp)
      go_at_call 65
      refine(rended_any f b q l hl.out hq.out tg gj (.slice A1 np k1) (.slice A2 n k2) _ _ (Nat.le_refl _) (hF.out _ (hbV2.trans (hS0j.out.bel.mono (Nat.le_trans (hbV2.size) (Nat.le_refl _))))) hs.out (hS0j.out.hJ gj rfl).2).mono ?_
      rintro e R0je hj
      obtain⟨c9,d9,rfl,hS0je⟩:=hS0j.out.ended hj
      replace hS0je:=hide hS0je
      clear hj
      refine Jo hK (fun _=>hS0je.out.bel) ?_;clear hK K
      refine Zp (rs := [5]) (by kernel_rfl) (by simp) ?_
      refine Yt.cons (by simp only [List.getElem?_toArray,List.getElem?_cons_succ,List.getElem?_cons_zero];rfl) (fun K hK => ?_) (Yt.nil)
      go_simp
      obtain⟨R0jen,hR0jen⟩:∃R0jen,Hid (R0je.alloc (.cells #[.string ⟨#[]⟩, .slice none 0 0, .int .i64 0, .slice none 0 0] 32)=R0jen):=⟨_,hide rfl⟩
      have hS0jen:=hide hS0je.out.boxN
      rw [hR0jen.out] at hS0jen⊢
      obtain⟨Ng,hNg⟩:=Jn (R0je.heap.size)
      rw [←hNg.out] at hS0jen⊢
      clear hR0jen
      refine Jo hK (fun _=>hS0jen.out.bel) ?_;clear hK K
      refine Zp (rs := [6]) (by kernel_rfl) (by simp) ?_
      refine Yt.cons (by simp only [List.getElem?_toArray,List.getElem?_cons_succ,List.getElem?_cons_zero];rfl) (fun K hK => ?_) (Yt.nil)
      obtain⟨o1,o2⟩:=hS0jen.out.hR _ rfl
      obtain⟨Ac,kc,hcf⟩:=Yd o1.row
      subst hcf
      obtain⟨Ad,kd,hdf⟩:=o2.form0'
      subst hdf
      obtain⟨nb2,hnb2⟩:∃x,Hid (x=(f.blocks.set b (setEnd l (brJ tg))).length):=⟨_,hide rfl⟩
      rw [←hnp.out] at o1⊢
      rw [←hnb2.out] at o2⊢
      obtain⟨o3,o4⟩:=hS0jen.out.hN _ rfl
      obtain⟨z0,z1,z2,z3⟩:=bx4 o4
      obtain⟨w0,w1,w2,w3⟩:=bf4 o4
      have hbx:=hide (box_put o4 hnp.out hnb2.out o1 o2)
      have hbw:=(((hS0jen.out.bel.setCell (p:=⟨Ng,0,none⟩) o3 (.string f.name)).setCell (p:=⟨Ng,1,none⟩) o3 (.slice Ac np kc)).setCell (p:=⟨Ng,2,none⟩) o3 (.int .i64 f.ret)).setCell (p:=⟨Ng,3,none⟩) o3 (.slice Ad nb2 kd)
      refine hd3 o1 o2 o4 ?_;clear o1 o2 o4;intro o1 o2 o4
      go_simp
      refine Jo hK (fun _=>hbw) ?_;clear hK K
      refine Yv (by kernel_rfl) ?_ _
      try go_wp2
      go_meet
      exact⟨Ng,rfl,o3,hbx,hbw⟩
     ·go_simp
      obtain⟨R0jn,hR0jn⟩:∃R0jn,Hid (R0j.alloc (.cells #[.string ⟨#[]⟩, .slice none 0 0, .int .i64 0, .slice none 0 0] 32)=R0jn):=⟨_,hide rfl⟩
      have hS0jn:=hide hS0j.out.boxN
      rw [hR0jn.out] at hS0jn⊢
      obtain⟨Ng,hNg⟩:=Jn (R0j.heap.size)
      rw [←hNg.out] at hS0jn⊢
      clear hR0jn
      refine Jo hK (fun _=>hS0jn.out.bel) ?_;clear hK K
      refine Zp (rs := [4]) (by kernel_rfl) (by simp) ?_
      refine Yt.cons (by simp only [List.getElem?_toArray,List.getElem?_cons_succ,List.getElem?_cons_zero];rfl) (fun K hK => ?_) (Yt.nil)
      (try go_simp)
      go_at_call 65
      refine(rended_any f b q l hl.out hq.out tg gj (.slice A1 np k1) (.slice A2 n k2) _ _ (Nat.le_refl _) (hF.out _ (hbV2.trans (hS0jn.out.bel.mono (Nat.le_trans (hbV2.size) (Nat.le_refl _))))) hs.out (hS0jn.out.hJ gj rfl).2).mono ?_
      rintro e R0jne hj
      obtain⟨c9,d9,rfl,hS0jne⟩:=hS0jn.out.ended hj
      replace hS0jne:=hide hS0jne
      clear hj
      refine Jo hK (fun _=>hS0jne.out.bel) ?_;clear hK K
      refine Zp (rs := [6]) (by kernel_rfl) (by simp) ?_
      refine Yt.cons (by simp only [List.getElem?_toArray,List.getElem?_cons_succ,List.getElem?_cons_zero];rfl) (fun K hK => ?_) (Yt.nil)
      obtain⟨o1,o2⟩:=hS0jne.out.hR _ rfl
      obtain⟨Ac,kc,hcf⟩:=Yd o1.row
      subst hcf
      obtain⟨Ad,kd,hdf⟩:=o2.form0'
      subst hdf
      obtain⟨nb2,hnb2⟩:∃x,Hid (x=(f.blocks.set b (setEnd l (brJ tg))).length):=⟨_,hide rfl⟩
      rw [←hnp.out] at o1⊢
      rw [←hnb2.out] at o2⊢
      obtain⟨o3,o4⟩:=hS0jne.out.hN _ rfl
      obtain⟨z0,z1,z2,z3⟩:=bx4 o4
      obtain⟨w0,w1,w2,w3⟩:=bf4 o4
      have hbx:=hide (box_put o4 hnp.out hnb2.out o1 o2)
      have hbw:=(((hS0jne.out.bel.setCell (p:=⟨Ng,0,none⟩) o3 (.string f.name)).setCell (p:=⟨Ng,1,none⟩) o3 (.slice Ac np kc)).setCell (p:=⟨Ng,2,none⟩) o3 (.int .i64 f.ret)).setCell (p:=⟨Ng,3,none⟩) o3 (.slice Ad nb2 kd)
      refine hd3 o1 o2 o4 ?_;clear o1 o2 o4;intro o1 o2 o4
      go_simp
      refine Jo hK (fun _=>hbw) ?_;clear hK K
      refine Yv (by kernel_rfl) ?_ _
      try go_wp2
      go_meet
      exact⟨Ng,rfl,o3,hbx,hbw⟩
    ·go_simp
     obtain⟨R0n,hR0n⟩:∃R0n,Hid (R0.alloc (.cells #[.string ⟨#[]⟩, .slice none 0 0, .int .i64 0, .slice none 0 0] 32)=R0n):=⟨_,hide rfl⟩
     have hS0n:=hide hS0.out.boxN
     rw [hR0n.out] at hS0n⊢
     obtain⟨Ng,hNg⟩:=Jn (R0.heap.size)
     rw [←hNg.out] at hS0n⊢
     clear hR0n
     refine Jo hK (fun _=>hS0n.out.bel) ?_;clear hK K
     refine Zp (rs := [3]) (by kernel_rfl) (by simp) ?_
     refine Yt.cons (by simp only [List.getElem?_toArray,List.getElem?_cons_succ,List.getElem?_cons_zero];rfl) (fun K hK => ?_) (Yt.nil)
     (try go_simp)
     go_at_call 66
     refine(rbr_any tg hto64.out _).mono ?_
     rintro e R0nj hj
     obtain⟨gj,rfl,hS0nj⟩:=hS0n.out.jump hj
     replace hS0nj:=hide hS0nj
     clear hj
     refine Jo hK (fun _=>hS0nj.out.bel) ?_;clear hK K
     refine Zp (rs := [4]) (by kernel_rfl) (by simp) ?_
     refine Yt.cons (by simp only [List.getElem?_toArray,List.getElem?_cons_succ,List.getElem?_cons_zero];rfl) (fun K hK => ?_) (Yt.nil)
     (try go_simp)
     go_at_call 65
     refine(rended_any f b q l hl.out hq.out tg gj (.slice A1 np k1) (.slice A2 n k2) _ _ (Nat.le_refl _) (hF.out _ (hbV2.trans (hS0nj.out.bel.mono (Nat.le_trans (hbV2.size) (Nat.le_refl _))))) hs.out (hS0nj.out.hJ gj rfl).2).mono ?_
     rintro e R0nje hj
     obtain⟨c9,d9,rfl,hS0nje⟩:=hS0nj.out.ended hj
     replace hS0nje:=hide hS0nje
     clear hj
     refine Jo hK (fun _=>hS0nje.out.bel) ?_;clear hK K
     refine Zp (rs := [6]) (by kernel_rfl) (by simp) ?_
     refine Yt.cons (by simp only [List.getElem?_toArray,List.getElem?_cons_succ,List.getElem?_cons_zero];rfl) (fun K hK => ?_) (Yt.nil)
     obtain⟨o1,o2⟩:=hS0nje.out.hR _ rfl
     obtain⟨Ac,kc,hcf⟩:=Yd o1.row
     subst hcf
     obtain⟨Ad,kd,hdf⟩:=o2.form0'
     subst hdf
     obtain⟨nb2,hnb2⟩:∃x,Hid (x=(f.blocks.set b (setEnd l (brJ tg))).length):=⟨_,hide rfl⟩
     rw [←hnp.out] at o1⊢
     rw [←hnb2.out] at o2⊢
     obtain⟨o3,o4⟩:=hS0nje.out.hN _ rfl
     obtain⟨z0,z1,z2,z3⟩:=bx4 o4
     obtain⟨w0,w1,w2,w3⟩:=bf4 o4
     have hbx:=hide (box_put o4 hnp.out hnb2.out o1 o2)
     have hbw:=(((hS0nje.out.bel.setCell (p:=⟨Ng,0,none⟩) o3 (.string f.name)).setCell (p:=⟨Ng,1,none⟩) o3 (.slice Ac np kc)).setCell (p:=⟨Ng,2,none⟩) o3 (.int .i64 f.ret)).setCell (p:=⟨Ng,3,none⟩) o3 (.slice Ad nb2 kd)
     refine hd3 o1 o2 o4 ?_;clear o1 o2 o4;intro o1 o2 o4
     go_simp
     refine Jo hK (fun _=>hbw) ?_;clear hK K
     refine Yv (by kernel_rfl) ?_ _
     try go_wp2
     go_meet
     exact⟨Ng,rfl,o3,hbx,hbw⟩
   case rest =>
    obtain⟨Ng,rfl,hNg,hBx,hbX⟩:=hcut
    rename World=>X
    have hX:Below W.heap.size W X:=hbV2.trans (hbX.mono hbV2.size)
    have hglb:Hid (f.blocks.getD b []=l):=hide (by rw [Jq,hl.out];rfl)
    by_cases hoe:tg=ot
    case pos =>
     have qoe:(tg != ot)=false:=by simp [hoe]
     have hfin2:Hid (res=some (f.blocks.set b (setEnd l (brJ tg)))):=hide (by
      rw [hfound.out]
      unfold decAt17
      rw [if_pos hoe.symm,hglb.out])
     replace hoe:=hide hoe
     obtain⟨Ab,nb,Cb,Ae,ne,Ce,hbx,hnb,hne,hOb,hKb⟩:=hBx.out
     obtain⟨z0,z1,z2,z3⟩:=bx4 hbx
     have hRV:=(hX.block Nr hNrW).trans hR0.out
     obtain⟨n0,n1,n2,n3⟩:=bx4 hRV
     obtain⟨g0,g1,g2,g3⟩:=bf4 hRV
     refine hd6 hRV hbx hnb hne hOb hKb ?_;clear hRV hbx hnb hne hOb hKb;intro hRV hbx hnb hne hOb hKb
     go_wp2
     refine bodyPost_ret (v := .tuple #[f.v (.slice Ab nb Cb) (.slice Ae ne Ce), .bool true]) (by simp [results,Tryz.results30,go_sem,n0,n1,n2,n3,g0,g1,g2,g3]) rfl ?_
     rw [hfin2.out]
     have hwV:=hwW.out.trans (hX.mono hws)
     have hfin:=(((hwV.setCell (p:=⟨Nr,0,none⟩) hNrw (.string f.name)).setCell (p:=⟨Nr,1,none⟩) hNrw (.slice Ab nb Cb)).setCell (p:=⟨Nr,2,none⟩) hNrw (.int .i64 f.ret)).setCell (p:=⟨Nr,3,none⟩) hNrw (.slice Ae ne Ce)
     have hV2W:=hbV2.size
     exact⟨hfin,_,_,rfl,(hOb.out.kept fun k hk _=>Z8 _ _ _ _ _ (show k≠Nr by omega)).mono (by omega),(hKb.out.kept fun k hk _=>Z8 _ _ _ _ _ (show k≠Nr by omega)).mono (by omega)⟩
    case neg =>
     have qoe:(tg != ot)=true:=by simp [hoe]
     obtain⟨on,hon,honn⟩:∃on:Nat,ot=(on:Int)∧on<n:=by
      obtain⟨on,e⟩:=Int.eq_ofNat_of_zero_le hmo.out.1
      exact⟨on,e,by have:=hn.out;have:=hmo.out.2;omega⟩
     have hfin2:Hid (res=some ((f.blocks.set b (setEnd l (brJ tg))).set on (((f.blocks.set b (setEnd l (brJ tg))).getD on []).map (Zg [(b:Int)])))):=hide (by
      rw [hfound.out]
      unfold decAt17 loseIB
      rw [if_neg (fun e=>hoe e.symm),hglb.out]
      show some ((f.blocks.set b (setEnd l (brJ tg))).set (ot).toNat (((f.blocks.set b (setEnd l (brJ tg))).getD (ot).toNat []).map _))=_
      rw [show(ot).toNat=on by rw [hon];rfl])
     obtain⟨l2,hl2⟩:=Yf (l:=f.blocks.set b (setEnd l (brJ tg))) (k:=on) (by rw [List.length_set,←hn.out];exact honn)
     have hfin3:Hid (res=some ((f.blocks.set b (setEnd l (brJ tg))).set on (l2.map (Zg [(b:Int)])))):=hide (by
      rw [hfin2.out,Jq,hl2.out]
      rfl)
     obtain⟨Ab,nb,Cb,Ae,ne,Ce,hbx,hnb,hne,hOb,hKb⟩:=hBx.out
     obtain⟨z0,z1,z2,z3⟩:=bx4 hbx
     have hb1:Below X.heap.size X (X.alloc (.cells #[.int .i64 b] 3)):=(Below.refl _ _).alloc (Nat.le_refl _) _
     have hBx2:=hide (hBx.out.later hb1)
     have cL:Hid (Calls Tryz.prog 67 #[f.v (.slice Ab nb Cb) (.slice Ae ne Ce), .int .i64 ot, .slice (some ⟨X.heap.size,0,none⟩) 1 1] (X.alloc (.cells #[.int .i64 b] 3)) (GivesF f ((f.blocks.set b (setEnd l (brJ tg))).set on (l2.map (Zg [(b:Int)]))) (X.alloc (.cells #[.int .i64 b] 3)))):=hide (by
      have hr9:=own_rep (f:=Ye f (f.blocks.set b (setEnd l (brJ tg)))) (hOb.kept fun k _ hk=>hb1.block k hk) (hKb.kept fun k _ hk=>hb1.block k hk) hret.out hnm.out
      have h8:=rlose_any (Ye f (f.blocks.set b (setEnd l (brJ tg)))) on l2 hl2.out [(b:Int)] (some ⟨X.heap.size,0,none⟩) 1 _ _ (X.alloc (.cells #[.int .i64 b] 3)) _ (Nat.le_refl _) hr9 (small_end hs.out hl.out) (ownI_one17 hb64.out) (by simp) (phi_end (fun l h=>(hwf.out l h).phi) hl.out l2 (Jm hl2.out))
      rw [hon]
      exact h8)
     refine hd8 hbx hnb hne hOb hKb hb1 hoe hon ?_;clear hbx hnb hne hOb hKb hb1 hoe hon;intro hbx hnb hne hOb hKb hb1 hoe hon
     go_wp2_with (fail)
     refine cL.out.mono ?_
     rintro e Y ⟨c9,d9,rfl,hI9,hK9,hb9⟩
     obtain⟨Ac,kc,hcf⟩:=Yd hI9.row
     subst hcf
     obtain⟨Ad,kd,hdf⟩:=hK9.form0'
     subst hdf
     obtain⟨nb2,hnb2⟩:∃x,Hid (x=((f.blocks.set b (setEnd l (brJ tg))).set on (l2.map (Zg [(b:Int)]))).length):=⟨_,hide rfl⟩
     rw [←hnp.out] at hI9⊢
     rw [←hnb2.out] at hK9⊢
     obtain⟨B1,B2,B3,B4,B5,B6,o4, -, -, -, -⟩:=hBx2.out.later hb9
     have hYX:=hb1.out.trans (hb9.mono hb1.out.size)
     have hXs:=hYX.size
     obtain⟨z0,z1,z2,z3⟩:=bx4 o4
     obtain⟨w0,w1,w2,w3⟩:=bf4 o4
     have hXV2:=hbX.size
     have hBy:=hide (box_put o4 hnp.out hnb2.out (hI9.mono (B':=V2.heap.size) (by have:=hb1.out.size;omega)) (hK9.mono (B':=V2.heap.size) (by have:=hb1.out.size;omega)))
     refine hd4 o4 hI9 hK9 hb9 ?_;clear o4 hI9 hK9 hb9;intro o4 hI9 hK9 hb9
     have hbYW:Below V2.heap.size V2 Y:=hbX.trans (hYX.mono hXV2)
     have hbw:=(((hbYW.setCell (p:=⟨Ng,0,none⟩) hNg (.string f.name)).setCell (p:=⟨Ng,1,none⟩) hNg (.slice Ac np kc)).setCell (p:=⟨Ng,2,none⟩) hNg (.int .i64 f.ret)).setCell (p:=⟨Ng,3,none⟩) hNg (.slice Ad nb2 kd)
     have hZ:Below W.heap.size W ((((Y.setCell ⟨Ng,0,none⟩ (.string f.name)).setCell ⟨Ng,1,none⟩ (.slice Ac np kc)).setCell ⟨Ng,2,none⟩ (.int .i64 f.ret)).setCell ⟨Ng,3,none⟩ (.slice Ad nb2 kd)):=hbV2.trans (hbw.mono hbV2.size)
     go_upto_region 14 with(fail)
     obtain⟨Z,hZe⟩:∃Z,Hid ((((Y.setCell ⟨Ng,0,none⟩ (.string f.name)).setCell ⟨Ng,1,none⟩ (.slice Ac np kc)).setCell ⟨Ng,2,none⟩ (.int .i64 f.ret)).setCell ⟨Ng,3,none⟩ (.slice Ad nb2 kd)=Z):=⟨_,hide rfl⟩
     rw [hZe.out] at hBy hZ hbw⊢
     clear z0 z1 z2 z3 w0 w1 w2 w3 hZe
     obtain⟨Ab,nb,Cb,Ae,ne,Ce,hbx,hnb,hne,hOb,hKb⟩:=hBy.out
     obtain⟨z0,z1,z2,z3⟩:=bx4 hbx
     have hRV:=(hZ.block Nr hNrW).trans hR0.out
     obtain⟨n0,n1,n2,n3⟩:=bx4 hRV
     obtain⟨g0,g1,g2,g3⟩:=bf4 hRV
     refine hd6 hRV hbx hnb hne hOb hKb ?_;clear hRV hbx hnb hne hOb hKb;intro hRV hbx hnb hne hOb hKb
     go_wp2
     refine bodyPost_ret (v := .tuple #[f.v (.slice Ab nb Cb) (.slice Ae ne Ce), .bool true]) (by simp [results,Tryz.results30,go_sem,n0,n1,n2,n3,g0,g1,g2,g3]) rfl ?_
     rw [hfin3.out]
     have hwV:=hwW.out.trans (hZ.mono hws)
     have hfin:=(((hwV.setCell (p:=⟨Nr,0,none⟩) hNrw (.string f.name)).setCell (p:=⟨Nr,1,none⟩) hNrw (.slice Ab nb Cb)).setCell (p:=⟨Nr,2,none⟩) hNrw (.int .i64 f.ret)).setCell (p:=⟨Nr,3,none⟩) hNrw (.slice Ae ne Ce)
     have hV2W:=hbV2.size
     exact⟨hfin,_,_,rfl,(hOb.out.kept fun k hk _=>Z8 _ _ _ _ _ (show k≠Nr by omega)).mono (by omega),(hKb.out.kept fun k hk _=>Z8 _ _ _ _ _ (show k≠Nr by omega)).mono (by omega)⟩
  ·obtain rfl : n = b := by omega
   have hnoA:Hid (∀j,j<f.blocks.length→dcB R f.blocks j=false):=hide (by rw [←hn.out];exact hno.out)
   clear x0V x1V x2V
   go_wp2
   go_loopw [11] (fun s wr=>∃b:Nat,s = .int .i64 b∧b≤n∧Hid (∀j,j<b→twB R f.blocks j=false)∧Below W.heap.size W wr) (fun s _=>n - (intOf s).toNat)
   case atStart=>exact⟨0,rfl,Nat.zero_le _,hnt0,hbV⟩
   case round =>
    clear hnt0 hbV hVs hno x3V
    rename World=>V
    obtain⟨b,rfl,hb,hno,hbV⟩:=hrel
    have hVs:=hbV.size
    have x0V:=x0 V hbV
    have x1V:=x1 V hbV
    have x2V:=x2 V hbV
    have x3V:=x3 V hbV
    by_cases hlt:b<n
    ·have hbi : (b : Int) < (n : Int) := by omega
     have hb64:Hid (I64 (b:Int)):=hide (Ybz (by omega) (by omega))
     obtain⟨l,hl⟩:=Yf (l:=f.blocks) (k:=b) (by rw [←hn.out];exact hlt)
     have hwl:=hide (hwf.out l (Jm hl.out))
     obtain⟨q,hq⟩:∃q,Hid (l.length=q+1):=⟨l.length - 1,hide (by have:=List.length_pos_iff.2 hwl.out.ne;omega)⟩
     obtain⟨ins,hins⟩:=Yf (l:=l) (k:=q) (by have:=hq.out;omega)
     have hend:=hide (endI_at hl.out hq.out hins.out)
     have hmem:=hide (Jm hins.out)
     obtain⟨rb,hrb⟩:=Yf (l:=R) (k:=b) (by rw [hRn.out];exact hlt)
     have hLs:=hide (rlast_any f b q l ins (.slice A1 np k1) (.slice A2 n k2) V V.heap.size (Nat.le_refl _) (hF.out V hbV) hl.out hq.out hins.out)
     have hstep:Hid (twB R f.blocks b=false→∀j,j<b+1→twB R f.blocks j=false):=hide (fun h9 j hj=>by
      rcases Nat.lt_succ_iff_lt_or_eq.1 hj with h1|h1
      ·exact hno.out j h1
      ·rw [h1];exact h9)
     have hgetR:Hid (R.getD b false=rb):=hide (by rw [Jq,hrb.out];rfl)
     go_wp2_with (fail)
     refine hLs.out.mono ?_
     rintro e V1 ⟨ca,ct,rfl,hri,hb1⟩
     obtain⟨A5,k5,A6,k6,rfl,rfl,hop64,g5,g6⟩:=rins_open hri
     obtain⟨na,hna⟩:=Jn (ins.args.length)
     obtain⟨nt,hnt⟩:=Jn (ins.to.length)
     rw [←hna.out] at g5 hri⊢
     rw [←hnt.out] at g6 hri⊢
     obtain⟨V2,hV2,hb12,h2s,hxi⟩:=Y6 V1 #[.int .i64 ins.op, .int .i64 ins.reg, .int .i64 ins.ty, .int .i64 ins.num, .int .i64 ins.flags, .slice A5 na k5, .slice A6 nt k6] 44
     obtain⟨Ni,hNi⟩:=Jn (V1.heap.size)
     have i0:=hxi 0 _ rfl
     have i5:=hxi 5 _ rfl
     have i6:=hxi 6 _ rfl
     have hself2:=Below.refl V2.heap.size V2
     have hbV2:Below W.heap.size W V2:=(hbV.trans (hb1.mono hVs)).trans (hb12.mono (by have:=hb1.size;omega))
     have hgR2:=hRw.out b rb hrb.out V2 hbV2
     have i0V:=i0 V2 hself2
     have i5V:=i5 V2 hself2
     have i6V:=i6 V2 hself2
     rw [←hNi.out] at i0 i5 i6 i0V i5V i6V
     refine hd6 hV2 h2s hri hb1 hrb hop64 ?_;clear hV2 h2s hri hb1 hrb hop64;intro hV2 h2s hri hb1 hrb hop64
     clear hxi hLs x0V x1V x2V x3V hVs
     obtain⟨V2n,hV2n⟩:∃V2n:Nat→World,Hid (∀nq,V2n nq=V2.drewN nq):=⟨_,hide fun _=>rfl⟩
     go_upto_region 19 with(fail)
     rw [hV2.out,←hNi.out]
     have hnb2:Hid (∀nq,Below W.heap.size W (V2.drewN nq)):=hide (fun nq=>Yi hbV2 nq)
     cases rb with
     | false =>
      have hnx:=hide (hstep.out (by unfold twB;rw [hgetR.out];rfl))
      clear i0 i5 i6 g5 g6
      go_quiet (fail)
      go_wp2
      go_roundw
      case rel=>exact⟨b+1,by go_num,hlt,hnx,Yi hbV2 _⟩
      case measure=>simp [intOf];omega
     | true =>
     by_cases h32:ins.op=32
     case neg =>
      have hnx:=hide (hstep.out (by unfold twB;rw [hgetR.out,hend.out];simp [h32]))
      have q32:(ins.op==32)=false:=by simp [h32]
      replace h32:=hide h32
      clear i0 i5 i6 g5 g6
      go_quiet (fail)
      go_wp2
      go_roundw
      case rel=>exact⟨b+1,by go_num,hlt,hnx,Yi hbV2 _⟩
      case measure=>simp [intOf];omega
     have q32:(ins.op==32)=true:=by simp [h32]
     obtain⟨ht2,ha1⟩:=hwl.out.brif ins hmem.out h32
     have hnt2:nt=2:=by rw [hnt.out,ht2]
     subst hnt2
     obtain⟨gt,ot,rfl,gt6⟩:=g6 (by omega)
     obtain⟨t0,ht0⟩:=Yf (l:=ins.to) (k:=0) (by rw [ht2];omega)
     obtain⟨t1,ht1⟩:=Yf (l:=ins.to) (k:=1) (by rw [ht2];omega)
     have gt60:=(gt6 0 t0 ht0.out).2 V2 hb12
     have gt61:=(gt6 1 t1 ht1.out).2 V2 hb12
     have gt60f:∀w',Below V2.heap.size V2 w'→w'.cell? ⟨gt,ot,none⟩=some (.int .i64 t0):=fun w' h9=>(gt6 0 t0 ht0.out).2 w' (hb12.trans (h9.mono hb12.size))
     have ht064:Hid (I64 t0):=hide (gt6 0 t0 ht0.out).1
     rw [Nat.add_zero] at gt60
     have hg0:Hid (ins.to.getD 0 0=t0):=hide (by rw [Jq,ht0.out];rfl)
     have hg1:Hid (ins.to.getD 1 0=t1):=hide (by rw [Jq,ht1.out];rfl)
     clear i0 i5 g5 gt6
     by_cases he01:t0=t1
     case neg =>
      have hnx:=hide (hstep.out (by unfold twB;rw [hgetR.out,hend.out];simp only [hg0.out,hg1.out];simp [he01]))
      have q01:(t0==t1)=false:=by simp [he01]
      refine hd2 h32 he01 ?_;clear h32 he01;intro h32 he01
      clear gt60f i6
      go_quiet (fail)
      go_wp2
      go_roundw
      case rel=>exact⟨b+1,by go_num,hlt,hnx,Yi hbV2 _⟩
      case measure=>simp [intOf];omega
     have q01:(t0==t1)=true:=by simp [he01]
     have hglb:Hid (f.blocks.getD b []=l):=hide (by rw [Jq,hl.out];rfl)
     have hfin2:Hid (res=some (f.blocks.set b (setEnd l (brJ t0)))):=hide (by
      rw [hres.out,ends_twice hnoA.out (by rw [←hn.out];exact hlt) (by unfold twB;rw [hgetR.out,hend.out];simp only [hg0.out,hg1.out];simp [he01,h32]) hno.out hend.out,hg0.out,hglb.out])
     refine hd2 h32 he01 ?_;clear h32 he01;intro h32 he01
     go_quiet (fail)
     have hbN:=Yi hself2 nq
     have hbNW:=Yi hbV2 nq
     generalize V2.drewN nq=V3 at hbN hbNW⊢
     go_upto_region 20 with(fail)
     have hself3:=Below.refl V3.heap.size V3
     have hV23:=hbN.size
     have hV2Ws:=hbV2.size
     have y0:∀w',Below V3.heap.size V3 w'→w'.cell? ⟨w.heap.size,0,none⟩=some (.string f.name):=fun w' h9=>x0 w' (hbNW.trans (h9.mono hbNW.size))
     have y1:∀w',Below V3.heap.size V3 w'→w'.cell? ⟨w.heap.size,1,none⟩=some (.slice A1 np k1):=fun w' h9=>x1 w' (hbNW.trans (h9.mono hbNW.size))
     have y2:∀w',Below V3.heap.size V3 w'→w'.cell? ⟨w.heap.size,2,none⟩=some (.int .i64 f.ret):=fun w' h9=>x2 w' (hbNW.trans (h9.mono hbNW.size))
     have y3:∀w',Below V3.heap.size V3 w'→w'.cell? ⟨w.heap.size,3,none⟩=some (.slice A2 n k2):=fun w' h9=>x3 w' (hbNW.trans (h9.mono hbNW.size))
     have y4:∀w',Below V3.heap.size V3 w'→w'.cell? ⟨gt,ot,none⟩=some (.int .i64 t0):=fun w' h9=>gt60f w' (hbN.trans (h9.mono hV23))
     have y5:∀w',Below V3.heap.size V3 w'→w'.cell? ⟨Ni,6,none⟩=some (.slice (some ⟨gt,ot,none⟩) 2 k6):=fun w' h9=>i6 w' (hbN.trans (h9.mono hV23))
     clear gt60 gt61 gt60f i0V i5V i6V i6
     have hx9:Hid (∀w',Below V3.heap.size V3 w'→Below W.heap.size W w'):=hide (fun w' h9=>hbNW.trans (h9.mono hbNW.size))
     refine Y8 (S:=fun u=>Below V3.heap.size V3 u) (T:=fun j=>decide (j<8)) (by kernel_rfl) ?_
     obtain⟨R0,hR9⟩:∃R0,V3.drew=R0:=⟨_,rfl⟩
     have hS0:Hid (EnSt V3 R0 f (f.blocks.set b (setEnd l (brJ t0))) t0 none none none):=hide (EnSt.start (by rw [←hR9];exact hself3.drew))
     rw [hR9]
     clear hR9
     refine Jt (i:=0) hS0.out.bel ?_
     refine Jt (i:=1) hS0.out.bel ?_
     refine Jt (i:=2) hS0.out.bel ?_
     refine Jt (i:=3) hS0.out.bel ?_
     refine Jt (i:=4) hS0.out.bel ?_
     refine Jt (i:=5) hS0.out.bel ?_
     refine Jr (i:=6) fun K hK => ?_
     (try go_simp)
     go_at_call 66
     refine(rbr_any t0 ht064.out _).mono ?_
     rintro e R0j hj
     obtain⟨gj,rfl,hSR0j⟩:=hS0.out.jump hj
     replace hSR0j:=hide hSR0j
     clear hj
     refine Jo hK (fun _=>hSR0j.out.bel) ?_;clear hK K
     refine Jr (i:=7) fun K hK => ?_
     (try go_simp)
     go_at_call 65
     refine(rended_any f b q l hl.out hq.out t0 gj (.slice A1 np k1) (.slice A2 n k2) _ _ (Nat.le_refl _) (hF.out _ (hx9.out _ hSR0j.out.bel)) hs.out (hSR0j.out.hJ gj rfl).2).mono ?_
     rintro e R0je hj
     obtain⟨c9,d9,rfl,hSR0je⟩:=hSR0j.out.ended hj
     replace hSR0je:=hide hSR0je
     clear hj
     refine Jo hK (fun _=>hSR0je.out.bel) ?_;clear hK K
     refine Jr (i:=8) fun K hK => ?_
     obtain⟨o1,o2⟩:=hSR0je.out.hR _ rfl
     obtain⟨Ac,kc,hcf⟩:=Yd o1.row
     subst hcf
     obtain⟨Ad,kd,hdf⟩:=o2.form0'
     subst hdf
     obtain⟨nb2,hnb2⟩:∃x,Hid (x=(f.blocks.set b (setEnd l (brJ t0))).length):=⟨_,hide rfl⟩
     rw [←hnp.out] at o1⊢
     rw [←hnb2.out] at o2⊢
     have hRV:=((hx9.out _ hSR0je.out.bel).block Nr hNrW).trans hR0.out
     obtain⟨n0,n1,n2,n3⟩:=bx4 hRV
     obtain⟨g0,g1,g2,g3⟩:=bf4 hRV
     refine hd3 hRV o1 o2 ?_;clear hRV o1 o2;intro hRV o1 o2
     go_simp
     refine Jo hK (fun h=>absurd h (by decide)) ?_;clear hK K
     refine Jy (i:=9) ?_
     refine Yv (by kernel_rfl) ?_ _
     go_wp2
     refine bodyPost_ret (v := .tuple #[f.v (.slice Ac np kc) (.slice Ad nb2 kd), .bool true]) (by simp [results,Tryz.results30,go_sem,n0,n1,n2,n3,g0,g1,g2,g3]) rfl ?_
     rw [hfin2.out]
     have hwV:=hwW.out.trans ((hx9.out _ hSR0je.out.bel).mono hws)
     have hfin:=(((hwV.setCell (p:=⟨Nr,0,none⟩) hNrw (.string f.name)).setCell (p:=⟨Nr,1,none⟩) hNrw (.slice Ac np kc)).setCell (p:=⟨Nr,2,none⟩) hNrw (.int .i64 f.ret)).setCell (p:=⟨Nr,3,none⟩) hNrw (.slice Ad nb2 kd)
     exact⟨hfin,_,_,rfl,(o1.out.kept fun k hk _=>Z8 _ _ _ _ _ (show k≠Nr by omega)).mono (by omega),(o2.out.kept fun k hk _=>Z8 _ _ _ _ _ (show k≠Nr by omega)).mono (by omega)⟩
    ·obtain rfl : n = b := by omega
     have hfin2:Hid (res=none):=hide (by rw [hres.out];exact ends_none hnoA.out (by rw [←hn.out];exact hno.out))
     have hRV:=(hbV.block Nr hNrW).trans hR0.out
     obtain⟨n0,n1,n2,n3⟩:=bx4 hRV
     obtain⟨g0,g1,g2,g3⟩:=bf4 hRV
     replace hRV:=hide hRV
     go_wp2
     refine bodyPost_ret (v := .tuple #[f.v (.slice A1 np k1) (.slice A2 n k2), .bool false]) (by simp [results,Tryz.results30,go_sem,n0,n1,n2,n3,g0,g1,g2,g3]) rfl ?_
     rw [hfin2.out]
     have hwV:=hwW.out.trans (hbV.mono hws)
     have hfin:=(((hwV.setCell (p:=⟨Nr,0,none⟩) hNrw (.string f.name)).setCell (p:=⟨Nr,1,none⟩) hNrw (.slice A1 np k1)).setCell (p:=⟨Nr,2,none⟩) hNrw (.int .i64 f.ret)).setCell (p:=⟨Nr,3,none⟩) hNrw (.slice A2 n k2)
     exact⟨hfin,rfl⟩
end Go.Proofs.YtamjcafjdioidaaGreat
