/- Texts of the chain, without what is not wanted: TdN, TdO, TdT. No condition but sizes. -/
import Derived.Test.YtamjcafjdioidaaGreatUw14
import Derived.Test.YtamjcafjdioidaaGreatUw15
set_option linter.unusedVariables false
set_option linter.unusedSimpArgs false
set_option maxRecDepth 100000
set_option maxHeartbeats 12800000
namespace Go.Proofs.YtamjcafjdioidaaGreat
open Go.RowKit
def Qd (bs:List (List Ins)) (i:Nat):Option (List (List Ins)) :=
 match i with
 | 0=>Qe (Yw bs) bs
 | 1=>Ya9 (Yw bs) bs
 | 2=>Qw (Yw bs) bs
 | 3=>Yal (Yw bs) bs
 | _=>Q5 (Zw (Yo bs) bs.length) bs
def Yam (bs:List (List Ins)):Option (List (List Ins)):=((List.range 5).find? fun i=>(Qd bs i).isSome).bind (Qd bs)
theorem Qu {bs bs':List (List Ins)} {i:Nat} (hi:i<5) (h:Qd bs i=some bs') (hno:∀j,j<i→Qd bs j=none):Yam bs=some bs':=by
 unfold Yam
 rw [Qk hi (by rw [h];rfl) (fun j hj=>by rw [hno j hj];rfl)]
 exact h
theorem step_none {bs:List (List Ins)} (hno:∀j,j<5→Qd bs j=none):Yam bs=none:=by
 unfold Yam
 rw [Zd (fun j hj=>by rw [hno j hj];rfl)]
 rfl
def Yaj (f:Fun) (w:World) (e:Ending) (w':World):Prop :=
 ∃(T:Nat→Prop) (N:Nat) (c d:Value),e = .returned (.tuple #[(Ye f ((Yam f.blocks).getD f.blocks)).v c d, .bool (Yam f.blocks).isSome])∧MF w' T N (Ye f ((Yam f.blocks).getD f.blocks)) c d∧(∀k,T k→w.heap.size≤k)∧w.heap.size≤N∧(∀k,c.ownBlock=some k→w.heap.size≤k)∧Below w.heap.size w w'
theorem step_fin {f g : Fun} {w w' : World} {T' : Nat → Prop} {N : Nat} {c d : Value} {b : Bool} (hM : MF w' T' N g c d) (hT : ∀ k, T' k → N + 2 ≤ k) (hc : ∀ k, c.ownBlock = some k → N + 2 ≤ k) (hB : Below w.heap.size w w') (hN : N = w.heap.size) (hg : g = Ye f ((Yam f.blocks).getD f.blocks)) (hb : b = (Yam f.blocks).isSome) :
  Yaj f w (.returned (.tuple #[.agg #[.string f.name,c, .int .i64 f.ret,d], .bool b])) ((((w'.setCell ⟨N+1,0,none⟩ (.string f.name)).setCell ⟨N+1,1,none⟩ c).setCell ⟨N+1,2,none⟩ (.int .i64 f.ret)).setCell ⟨N+1,3,none⟩ d):=by
 subst hg hb
 have hk:∀k,k≠N+1→((((w'.setCell ⟨N+1,0,none⟩ (.string f.name)).setCell ⟨N+1,1,none⟩ c).setCell ⟨N+1,2,none⟩ (.int .i64 f.ret)).setCell ⟨N+1,3,none⟩ d).heap[k]? = w'.heap[k]? := fun k h=>by
  rw [Below.heap_setCell _ ⟨N+1,3,none⟩ _ _ h,Below.heap_setCell _ ⟨N+1,2,none⟩ _ _ h,Below.heap_setCell _ ⟨N+1,1,none⟩ _ _ h,Below.heap_setCell _ ⟨N+1,0,none⟩ _ _ h]
 have h1:w.heap.size≤N+1:=by omega
 refine⟨T',N,c,d,rfl,hM.kept fun k _ h2=>hk k ?_,fun k h2=>by have:=hT k h2;omega,by omega,fun k h2=>by have:=hc k h2;omega,(((hB.setCell (p:=⟨N+1,0,none⟩) h1 _).setCell (p:=⟨N+1,1,none⟩) h1 _).setCell (p:=⟨N+1,2,none⟩) h1 _).setCell (p:=⟨N+1,3,none⟩) h1 _⟩
 rcases h2 with h2|h2|h2
 ·have:=hT k h2;omega
 ·omega
 ·have:=hc k h2;omega
theorem Y7.split {w w' : World} {T Cp : Nat → Prop} {N gf B : Nat} {f : Fun} {res : Option (List (List Ins))} {e : Ending} (h : Y7 w T N f Cp res e w') (hT : ∀ k, T k → B ≤ k ∧ k ≠ gf) (hC : ∀ k, Cp k → B ≤ k) (hB : B ≤ w.heap.size) (hg : gf < w.heap.size) :
  ∃(T':Nat→Prop) (c' d':Value),(∀k,T' k→B≤k∧k≠gf)∧(∀k,c'.ownBlock=some k→B≤k)∧Only (fun k=>k=N∨(B≤k∧k≠gf)) w.heap.size w w'∧((res=none∧e = .returned (.bool false)∧MF w' T' N f c' d')∨∃bs,res=some bs∧e = .returned (.bool true)∧MF w' T' N (Ye f bs) c' d'):=by
 obtain⟨T',c',d',h1,h2,h3,h4⟩:=h
 refine⟨T',c',d',fun k hk => ?_,fun k hk => ?_,h3.more fun k _ hk=>hk.imp_right (hT k),?_⟩
 ·rcases h1 k hk with h5 | h5
  ·exact hT k h5
  ·omega
 ·rcases h4 k hk with h5 | h5
  ·exact hC k h5
  ·omega
 ·cases res with
  | none=>exact .inl ⟨rfl,h2.1,h2.2⟩
  | some bs=>exact .inr ⟨bs,rfl,h2.1,h2.2⟩
theorem tstep_any (f : Fun) (c1 d1 : Value) (w : World) (B : Nat) (hB : B ≤ w.heap.size) (hf : RFun.rep w B [.string f.name, c1, .int .i64 f.ret, d1] f) (hs : Zo f) (hwf : Wf f.blocks) (hfr : ∀ l, l ∈ f.blocks → Ycm l) :
  Calls Tryz.prog 10 #[f.v c1 d1] w (Yaj f w):=by
 obtain⟨-, -, -, -, -,hret,hnm⟩:=id hf
 obtain⟨st,hst⟩:=Jn (Yam f.blocks)
 obtain⟨W,hW,hwW,hWs,hx,hy⟩:=Ql w #[.string f.name,c1, .int .i64 f.ret,d1] #[.string ⟨#[]⟩, .slice none 0 0, .int .i64 0, .slice none 0 0] 32 32
 have cC:Hid (Calls Tryz.prog 23 #[f.v c1 d1] W (CopyTree f W)):=hide (icopytree_any f c1 d1 W B (by omega) (Rp.later hf (hwW.mono hB) (Nat.le_refl _)) hs)
 have q0:∀w',Below W.heap.size W w'→w'.cell? ⟨w.heap.size,0,none⟩=some (.string f.name):=hx 0 _ rfl
 have q1:∀w',Below W.heap.size W w'→w'.cell? ⟨w.heap.size,1,none⟩=some c1:=hx 1 _ rfl
 have q2:∀w',Below W.heap.size W w'→w'.cell? ⟨w.heap.size,2,none⟩=some (.int .i64 f.ret):=hx 2 _ rfl
 have q3:∀w',Below W.heap.size W w'→w'.cell? ⟨w.heap.size,3,none⟩=some d1:=hx 3 _ rfl
 have hbN:Hid (W.heap[w.heap.size]? = some (.cells #[.string f.name,c1, .int .i64 f.ret,d1] 32 (0,0))):=hide (by rw [←hW];exact box_under _ _ _)
 have hbR:Hid (W.heap[w.heap.size+1]? = some (.cells #[.string ⟨#[]⟩, .slice none 0 0, .int .i64 0, .slice none 0 0] 32 (0,0))):=hide (by rw [←hW];have:=Yu (w.alloc (.cells #[.string f.name,c1, .int .i64 f.ret,d1] 32)) (.cells #[.string ⟨#[]⟩, .slice none 0 0, .int .i64 0, .slice none 0 0] 32);simpa using this)
 have hself:=Below.refl W.heap.size W
 have hwWs:w.heap.size+1<W.heap.size:=by omega
 refine hd9 hWs hwW hW hret hnm hwf hfr hs hf ?_;clear hWs hwW hW hret hnm hwf hfr hs hf;intro hWs hwW hW hret hnm hwf hfr hs hf
 clear hx hy
 go_enter Tryz.func10,Tryz.ntmps10
 go_upto_region 1 with(fail)
 rw [hW.out]
 go_wp2_with (fail)
 refine cC.out.mono ?_
 rintro e w1 ⟨c,d,L,rfl,hc,hcL,hd,hWL,hb1⟩
 have hW1s:=hb1.size
 obtain⟨A1,C1,hcf⟩:=Yd hc.row
 obtain⟨A2,C2,hdf⟩:=hd.form
 subst hcf hdf
 obtain⟨N,hN⟩:=Jn (w.heap.size)
 rw [←hN.out] at hwWs q0 q1 q2 q3 hbN hbR⊢
 have hN1:Hid (w1.heap[N]? = some (.cells #[.string f.name,c1, .int .i64 f.ret,d1] 32 (0,0))):=hide ((hb1.block N (by omega)).trans hbN.out)
 have hR1:Hid (w1.heap[N+1]? = some (.cells #[.string ⟨#[]⟩, .slice none 0 0, .int .i64 0, .slice none 0 0] 32 (0,0))):=hide ((hb1.block (N+1) (by omega)).trans hbR.out)
 obtain⟨w2,hw2⟩:∃w2,Hid ((((w1.setCell ⟨N,0,none⟩ (.string f.name)).setCell ⟨N,1,none⟩ (.slice A1 f.params.length C1)).setCell ⟨N,2,none⟩ (.int .i64 f.ret)).setCell ⟨N,3,none⟩ (.slice A2 f.blocks.length C2)=w2):=⟨_,hide rfl⟩
 have r0:=q0 w1 hb1
 have r1:=q1 w1 hb1
 have r2:=q2 w1 hb1
 have r3:=q3 w1 hb1
 obtain⟨n0,n1,n2,n3⟩:=bx4 hN1.out
 have nf:∀q,w1.frozen? ⟨N,q,none⟩=false:=fun q=>by simp [World.frozen?,hN1.out]
 have hM2:Hid (MF w2 (fun k=>L≤k) N f (.slice A1 f.params.length C1) (.slice A2 f.blocks.length C2)):=hide (by
  rw [←hw2.out]
  exact MF.whole hN1.out (by omega) hWL hc hcL hd hret.out hnm.out)
 have hcW:Hid (∀k,(Value.slice A1 f.params.length C1).ownBlock=some k→W.heap.size≤k):=hide (fun k hk=>(Ya hc.row hk).1)
 have hw2s:Hid (w2.heap.size=w1.heap.size):=hide (by rw [←hw2.out];simp)
 have h2k:Hid (∀k,k≠N→w2.heap[k]? = w1.heap[k]?):=hide (fun k h=>by
  rw [←hw2.out,Below.heap_setCell _ ⟨N,3,none⟩ _ _ h,Below.heap_setCell _ ⟨N,2,none⟩ _ _ h,Below.heap_setCell _ ⟨N,1,none⟩ _ _ h,Below.heap_setCell _ ⟨N,0,none⟩ _ _ h])
 have h2o:Hid (Only (fun k=>k=N) W.heap.size W w2):=hide (by
  rw [←hw2.out]
  have a0:Only (fun k=>k=N) W.heap.size W w1:=Only.of_below hb1
  exact(((((a0).setCell (p:=⟨N,0,none⟩) (.inl rfl) _).setCell (p:=⟨N,1,none⟩) (.inl rfl) _).setCell (p:=⟨N,2,none⟩) (.inl rfl) _).setCell (p:=⟨N,3,none⟩) (.inl rfl) _))
 refine hd4 hc hcL hd hb1 ?_;clear hc hcL hd hb1;intro hc hcL hd hb1
 have hgf:Hid (w1.heap.size=w1.heap.size):=hide rfl
 go_upto_region 2 with(fail)
 rw [hw2.out]
 clear n0 n1 n2 n3 nf r0 r1 r2 r3 q0 q1 q2 q3 hself
 obtain⟨gf,hgf⟩:=Jn (w2.heap.size)
 obtain⟨W3,hW3⟩:∃W3,Hid (w2.alloc (.cells #[.func (.func 24) #[] #[], .func (.func 25) #[] #[], .func (.func 26) #[] #[], .func (.func 27) #[] #[], .func (.func 28) #[] #[]] 52)=W3):=⟨_,hide rfl⟩
 have hb3:Hid (Below w2.heap.size w2 W3):=hide (by rw [←hW3.out];exact(Below.refl _ _).alloc (Nat.le_refl _) _)
 have hF3:Hid (W3.heap[gf]? = some (.cells #[.func (.func 24) #[] #[], .func (.func 25) #[] #[], .func (.func 26) #[] #[], .func (.func 27) #[] #[], .func (.func 28) #[] #[]] 52 (0,0))):=hide (by rw [←hW3.out,hgf.out];exact heap_alloc_new _ _)
 have hgfW3:gf<W3.heap.size:=(Array.getElem?_eq_some_iff.1 hF3.out).1
 have hgW:W.heap.size≤gf:=by rw [hgf.out,hw2s.out];exact hW1s
 have hW3s:Hid (w2.heap.size≤W3.heap.size):=hide hb3.out.size
 have hM3:Hid (MF W3 (fun k=>L≤k∧k<w2.heap.size) N f (.slice A1 f.params.length C1) (.slice A2 f.blocks.length C2)):=hide (hM2.out.cut.below hb3.out)
 have hT3:Hid (∀k,(fun k=>L≤k∧k<w2.heap.size) k→W.heap.size≤k∧k≠gf):=hide (fun k hk=>⟨by have:=hk.1;omega,by have:=hk.2;have:=hgf.out;omega⟩)
 have hno0:Hid (∀j,j<0→Qd f.blocks j=none):=hide (fun j hj=>by omega)
 have hon0:Only (fun k=>k=N∨(W.heap.size≤k∧k≠gf)) W3.heap.size W3 W3:=Only.refl _ _ _
 have hwW3:Hid (Below w.heap.size w W3):=hide (by
  have h1:Only (fun k=>k=N) w.heap.size w W3:=(Only.of_below hwW.out).trans ((h2o.out.mono hwW.out.size).trans (Only.of_below (hb3.out.mono (by have:=hwW.out.size;have:=hw2s.out;omega))))
  exact h1.to_below (B':=w.heap.size) (fun k hk=>by have:=hN.out;omega) (Nat.le_refl _))
 have hR3:Hid (W3.heap[N+1]? = some (.cells #[.string ⟨#[]⟩, .slice none 0 0, .int .i64 0, .slice none 0 0] 32 (0,0))):=hide (by
  rw [hb3.out.block (N+1) (by have:=hw2s.out;omega),h2k.out (N+1) (by omega)]
  exact hR1.out)
 have hN1W3:N+1<W3.heap.size:=(Array.getElem?_eq_some_iff.1 hR3.out).1
 have nQ:¬(N+1=N∨(W.heap.size≤N+1∧N+1≠gf)):=by omega
 have nG:¬(gf=N∨(W.heap.size≤gf∧gf≠gf)):=by omega
 have R0:=Yx (Q:=fun k=>k=N∨(W.heap.size≤k∧k≠gf)) (Yb hR3.out 0 rfl) hN1W3 nQ
 have R1:=Yx (Q:=fun k=>k=N∨(W.heap.size≤k∧k≠gf)) (Yb hR3.out 1 rfl) hN1W3 nQ
 have R2:=Yx (Q:=fun k=>k=N∨(W.heap.size≤k∧k≠gf)) (Yb hR3.out 2 rfl) hN1W3 nQ
 have R3:=Yx (Q:=fun k=>k=N∨(W.heap.size≤k∧k≠gf)) (Yb hR3.out 3 rfl) hN1W3 nQ
 have RF:Hid (∀q w',Only (fun k=>k=N∨(W.heap.size≤k∧k≠gf)) W3.heap.size W3 w'→w'.frozen? ⟨N+1,q,none⟩=false):=hide (fun q=>on_free (Q:=fun k=>k=N∨(W.heap.size≤k∧k≠gf)) (by simp [World.frozen?,hR3.out]) hN1W3 nQ)
 have g0:=hide (Yx (Q:=fun k=>k=N∨(W.heap.size≤k∧k≠gf)) (Yb hF3.out 0 rfl) hgfW3 nG)
 have g1:=hide (Yx (Q:=fun k=>k=N∨(W.heap.size≤k∧k≠gf)) (Yb hF3.out 1 rfl) hgfW3 nG)
 have g2:=hide (Yx (Q:=fun k=>k=N∨(W.heap.size≤k∧k≠gf)) (Yb hF3.out 2 rfl) hgfW3 nG)
 have g3:=hide (Yx (Q:=fun k=>k=N∨(W.heap.size≤k∧k≠gf)) (Yb hF3.out 3 rfl) hgfW3 nG)
 have g4:=hide (Yx (Q:=fun k=>k=N∨(W.heap.size≤k∧k≠gf)) (Yb hF3.out 4 rfl) hgfW3 nG)
 refine hd4 R0 R1 R2 R3 ?_;clear R0 R1 R2 R3;intro R0 R1 R2 R3
 go_upto_region 3 with(fail)
 rw [hW3.out,←hgf.out]
 go_wp2
 go_loopw [10] (fun s wr=>∃(i:Nat) (T2:Nat→Prop) (c2 d2:Value),s = .int .i64 i∧i≤5∧Hid (MF wr T2 N f c2 d2)∧Hid (∀k,T2 k→W.heap.size≤k∧k≠gf)∧Hid (∀k,c2.ownBlock=some k→W.heap.size≤k)∧Hid (∀j,j<i→Qd f.blocks j=none)∧Only (fun k=>k=N∨(W.heap.size≤k∧k≠gf)) W3.heap.size W3 wr) (fun s _=>5 - (intOf s).toNat)
 case atStart=>exact⟨0,_,_,_,rfl,by omega,hM3,hT3,hcW,hno0,hon0⟩
 case round =>
  clear hM3 hT3 hno0 hon0
  rename World=>V
  obtain⟨i,T2,c2,d2,rfl,hi,hM,hT,hC,hno,hon⟩:=hrel
  have hVs:=hon.size
  have hgV:gf<V.heap.size:=by omega
  have hWV:W.heap.size≤V.heap.size:=by omega
  by_cases hlt:i<5
  ·have hcase : i = 0 ∨ i = 1 ∨ i = 2 ∨ i = 3 ∨ i = 4 := by omega
   rcases hcase with hi9|hi9|hi9|hi9|hi9
   ·subst hi9
    have gk:=g0.out V hon
    have cR:Hid (Calls Tryz.prog 24 #[.pointer (some ⟨N,0,none⟩)] V (Y7 V T2 N f (fun k=>c2.ownBlock=some k) (Qd f.blocks 0))):=hide (tdecided_any (fun k hk=>hk) hM.out hs.out hwf.out)
    replace hM:=hide hM
    go_wp2_with (fail)
    refine cR.out.mono ?_
    intro e w4 hpost
    obtain⟨T4,c4,d4,hT4,hC4,hon4,hres⟩:=hpost.split (B:=W.heap.size) (gf:=gf) hT.out hC.out hWV hgV
    clear hpost gk
    have hon5:=hon.next (Nat.le_refl _) hon4
    refine hd2 hT4 hC4 ?_;clear hT4 hC4;intro hT4 hC4
    rcases hres with⟨hr,rfl,hM4⟩|⟨bs,hr,rfl,hM4⟩
    ·have hno4:Hid (∀j,j<0+1→Qd f.blocks j=none):=hide (fun j hj=>by
      rcases Nat.lt_succ_iff_lt_or_eq.1 hj with h1|h1
      ·exact hno.out j h1
      ·rw [h1];exact hr)
     refine hd2 hM4 hr ?_;clear hM4 hr;intro hM4 hr
     go_wp2
     go_roundw
     case rel=>exact⟨0+1,T4,c4,d4,by go_num,by omega,hM4,hT4,hC4,hno4,hon5⟩
     case measure=>simp [intOf]
    ·skip
     obtain⟨nc,Ac,Cc,hcf⟩:∃n A C,c4 = .slice A n C:=by obtain⟨A,C,h⟩:=Yd hM4.par.row;exact⟨_,A,C,h⟩
     obtain⟨nd,Ad,Cd,hdf⟩:∃n A C,d4 = .slice A n C:=by obtain⟨_,_,hk,_⟩:=hM4.tree;obtain⟨A,C,h⟩:=Yd hk.row;exact⟨_,A,C,h⟩
     subst hcf hdf
     have hst9:=hide (Qu (by omega) hr hno.out)
     have hB4:Hid (Below w.heap.size w w4):=hide (hwW3.out.trans ((hon5.mono hwW3.out.size).to_below (B':=w.heap.size) (fun k hk=>by have:=hN.out;have:=hWs.out;omega) (Nat.le_refl _)))
     have hfin:Hid (Yaj f w (.returned (.tuple #[.agg #[.string f.name, .slice Ac nc Cc, .int .i64 f.ret, .slice Ad nd Cd], .bool true])) ((((w4.setCell ⟨N+1,0,none⟩ (.string f.name)).setCell ⟨N+1,1,none⟩ (.slice Ac nc Cc)).setCell ⟨N+1,2,none⟩ (.int .i64 f.ret)).setCell ⟨N+1,3,none⟩ (.slice Ad nd Cd))):=hide (step_fin hM4 (fun k hk=>by have:=(hT4.out k hk).1;have:=hN.out;have:=hWs.out;omega) (fun k hk=>by have:=hC4.out k hk;have:=hN.out;have:=hWs.out;omega) hB4.out hN.out (by rw [hst9.out];rfl) (by rw [hst9.out];rfl))
     have m0:w4.cell? ⟨N,0,none⟩=some (.string f.name):=Yb hM4.box 0 rfl
     have m1:=Yb hM4.box 1 rfl
     have m2:w4.cell? ⟨N,2,none⟩=some (.int .i64 f.ret):=Yb hM4.box 2 rfl
     have m3:=Yb hM4.box 3 rfl
     have v0:=R0.out w4 hon5
     have v1:=R1.out w4 hon5
     have v2:=R2.out w4 hon5
     have v3:=R3.out w4 hon5
     have vf:=fun q=>RF.out q w4 hon5
     refine hd2 hM4 hr ?_;clear hM4 hr;intro hM4 hr
     go_wp2
     try simp only [Exit.inBlock,Exit.then]
     refine bodyPost_ret (v := .tuple #[.agg #[.string f.name, .slice Ac nc Cc, .int .i64 f.ret, .slice Ad nd Cd], .bool true]) ?_ rfl ?_
     ·simp [results,Tryz.results10,go_sem,v0,v1,v2,v3]
     ·exact hfin.out
   ·subst hi9
    have gk:=g1.out V hon
    have cR:Hid (Calls Tryz.prog 25 #[.pointer (some ⟨N,0,none⟩)] V (Y7 V T2 N f (fun k=>c2.ownBlock=some k) (Qd f.blocks 1))):=hide (ttwice_any (fun k hk=>hk) hM.out hs.out hwf.out)
    replace hM:=hide hM
    go_wp2_with (fail)
    refine cR.out.mono ?_
    intro e w4 hpost
    obtain⟨T4,c4,d4,hT4,hC4,hon4,hres⟩:=hpost.split (B:=W.heap.size) (gf:=gf) hT.out hC.out hWV hgV
    clear hpost gk
    have hon5:=hon.next (Nat.le_refl _) hon4
    refine hd2 hT4 hC4 ?_;clear hT4 hC4;intro hT4 hC4
    rcases hres with⟨hr,rfl,hM4⟩|⟨bs,hr,rfl,hM4⟩
    ·have hno4:Hid (∀j,j<1+1→Qd f.blocks j=none):=hide (fun j hj=>by
      rcases Nat.lt_succ_iff_lt_or_eq.1 hj with h1|h1
      ·exact hno.out j h1
      ·rw [h1];exact hr)
     refine hd2 hM4 hr ?_;clear hM4 hr;intro hM4 hr
     go_wp2
     go_roundw
     case rel=>exact⟨1+1,T4,c4,d4,by go_num,by omega,hM4,hT4,hC4,hno4,hon5⟩
     case measure=>simp [intOf]
    ·skip
     obtain⟨nc,Ac,Cc,hcf⟩:∃n A C,c4 = .slice A n C:=by obtain⟨A,C,h⟩:=Yd hM4.par.row;exact⟨_,A,C,h⟩
     obtain⟨nd,Ad,Cd,hdf⟩:∃n A C,d4 = .slice A n C:=by obtain⟨_,_,hk,_⟩:=hM4.tree;obtain⟨A,C,h⟩:=Yd hk.row;exact⟨_,A,C,h⟩
     subst hcf hdf
     have hst9:=hide (Qu (by omega) hr hno.out)
     have hB4:Hid (Below w.heap.size w w4):=hide (hwW3.out.trans ((hon5.mono hwW3.out.size).to_below (B':=w.heap.size) (fun k hk=>by have:=hN.out;have:=hWs.out;omega) (Nat.le_refl _)))
     have hfin:Hid (Yaj f w (.returned (.tuple #[.agg #[.string f.name, .slice Ac nc Cc, .int .i64 f.ret, .slice Ad nd Cd], .bool true])) ((((w4.setCell ⟨N+1,0,none⟩ (.string f.name)).setCell ⟨N+1,1,none⟩ (.slice Ac nc Cc)).setCell ⟨N+1,2,none⟩ (.int .i64 f.ret)).setCell ⟨N+1,3,none⟩ (.slice Ad nd Cd))):=hide (step_fin hM4 (fun k hk=>by have:=(hT4.out k hk).1;have:=hN.out;have:=hWs.out;omega) (fun k hk=>by have:=hC4.out k hk;have:=hN.out;have:=hWs.out;omega) hB4.out hN.out (by rw [hst9.out];rfl) (by rw [hst9.out];rfl))
     have m0:w4.cell? ⟨N,0,none⟩=some (.string f.name):=Yb hM4.box 0 rfl
     have m1:=Yb hM4.box 1 rfl
     have m2:w4.cell? ⟨N,2,none⟩=some (.int .i64 f.ret):=Yb hM4.box 2 rfl
     have m3:=Yb hM4.box 3 rfl
     have v0:=R0.out w4 hon5
     have v1:=R1.out w4 hon5
     have v2:=R2.out w4 hon5
     have v3:=R3.out w4 hon5
     have vf:=fun q=>RF.out q w4 hon5
     refine hd2 hM4 hr ?_;clear hM4 hr;intro hM4 hr
     go_wp2
     try simp only [Exit.inBlock,Exit.then]
     refine bodyPost_ret (v := .tuple #[.agg #[.string f.name, .slice Ac nc Cc, .int .i64 f.ret, .slice Ad nd Cd], .bool true]) ?_ rfl ?_
     ·simp [results,Tryz.results10,go_sem,v0,v1,v2,v3]
     ·exact hfin.out
   ·subst hi9
    have gk:=g2.out V hon
    have cR:Hid (Calls Tryz.prog 26 #[.pointer (some ⟨N,0,none⟩)] V (Y7 V T2 N f (fun k=>c2.ownBlock=some k) (Qd f.blocks 2))):=hide (tsingle_any (fun k hk=>hk) hM.out hs.out hwf.out)
    replace hM:=hide hM
    go_wp2_with (fail)
    refine cR.out.mono ?_
    intro e w4 hpost
    obtain⟨T4,c4,d4,hT4,hC4,hon4,hres⟩:=hpost.split (B:=W.heap.size) (gf:=gf) hT.out hC.out hWV hgV
    clear hpost gk
    have hon5:=hon.next (Nat.le_refl _) hon4
    refine hd2 hT4 hC4 ?_;clear hT4 hC4;intro hT4 hC4
    rcases hres with⟨hr,rfl,hM4⟩|⟨bs,hr,rfl,hM4⟩
    ·have hno4:Hid (∀j,j<2+1→Qd f.blocks j=none):=hide (fun j hj=>by
      rcases Nat.lt_succ_iff_lt_or_eq.1 hj with h1|h1
      ·exact hno.out j h1
      ·rw [h1];exact hr)
     refine hd2 hM4 hr ?_;clear hM4 hr;intro hM4 hr
     go_wp2
     go_roundw
     case rel=>exact⟨2+1,T4,c4,d4,by go_num,by omega,hM4,hT4,hC4,hno4,hon5⟩
     case measure=>simp [intOf]
    ·skip
     obtain⟨nc,Ac,Cc,hcf⟩:∃n A C,c4 = .slice A n C:=by obtain⟨A,C,h⟩:=Yd hM4.par.row;exact⟨_,A,C,h⟩
     obtain⟨nd,Ad,Cd,hdf⟩:∃n A C,d4 = .slice A n C:=by obtain⟨_,_,hk,_⟩:=hM4.tree;obtain⟨A,C,h⟩:=Yd hk.row;exact⟨_,A,C,h⟩
     subst hcf hdf
     have hst9:=hide (Qu (by omega) hr hno.out)
     have hB4:Hid (Below w.heap.size w w4):=hide (hwW3.out.trans ((hon5.mono hwW3.out.size).to_below (B':=w.heap.size) (fun k hk=>by have:=hN.out;have:=hWs.out;omega) (Nat.le_refl _)))
     have hfin:Hid (Yaj f w (.returned (.tuple #[.agg #[.string f.name, .slice Ac nc Cc, .int .i64 f.ret, .slice Ad nd Cd], .bool true])) ((((w4.setCell ⟨N+1,0,none⟩ (.string f.name)).setCell ⟨N+1,1,none⟩ (.slice Ac nc Cc)).setCell ⟨N+1,2,none⟩ (.int .i64 f.ret)).setCell ⟨N+1,3,none⟩ (.slice Ad nd Cd))):=hide (step_fin hM4 (fun k hk=>by have:=(hT4.out k hk).1;have:=hN.out;have:=hWs.out;omega) (fun k hk=>by have:=hC4.out k hk;have:=hN.out;have:=hWs.out;omega) hB4.out hN.out (by rw [hst9.out];rfl) (by rw [hst9.out];rfl))
     have m0:w4.cell? ⟨N,0,none⟩=some (.string f.name):=Yb hM4.box 0 rfl
     have m1:=Yb hM4.box 1 rfl
     have m2:w4.cell? ⟨N,2,none⟩=some (.int .i64 f.ret):=Yb hM4.box 2 rfl
     have m3:=Yb hM4.box 3 rfl
     have v0:=R0.out w4 hon5
     have v1:=R1.out w4 hon5
     have v2:=R2.out w4 hon5
     have v3:=R3.out w4 hon5
     have vf:=fun q=>RF.out q w4 hon5
     refine hd2 hM4 hr ?_;clear hM4 hr;intro hM4 hr
     go_wp2
     try simp only [Exit.inBlock,Exit.then]
     refine bodyPost_ret (v := .tuple #[.agg #[.string f.name, .slice Ac nc Cc, .int .i64 f.ret, .slice Ad nd Cd], .bool true]) ?_ rfl ?_
     ·simp [results,Tryz.results10,go_sem,v0,v1,v2,v3]
     ·exact hfin.out
   ·subst hi9
    have gk:=g3.out V hon
    have cR:Hid (Calls Tryz.prog 27 #[.pointer (some ⟨N,0,none⟩)] V (Y7 V T2 N f (fun k=>c2.ownBlock=some k) (Qd f.blocks 3))):=hide (tunseens_any (fun k hk=>hk) hM.out hs.out hwf.out)
    replace hM:=hide hM
    go_wp2_with (fail)
    refine cR.out.mono ?_
    intro e w4 hpost
    obtain⟨T4,c4,d4,hT4,hC4,hon4,hres⟩:=hpost.split (B:=W.heap.size) (gf:=gf) hT.out hC.out hWV hgV
    clear hpost gk
    have hon5:=hon.next (Nat.le_refl _) hon4
    refine hd2 hT4 hC4 ?_;clear hT4 hC4;intro hT4 hC4
    rcases hres with⟨hr,rfl,hM4⟩|⟨bs,hr,rfl,hM4⟩
    ·have hno4:Hid (∀j,j<3+1→Qd f.blocks j=none):=hide (fun j hj=>by
      rcases Nat.lt_succ_iff_lt_or_eq.1 hj with h1|h1
      ·exact hno.out j h1
      ·rw [h1];exact hr)
     refine hd2 hM4 hr ?_;clear hM4 hr;intro hM4 hr
     go_wp2
     go_roundw
     case rel=>exact⟨3+1,T4,c4,d4,by go_num,by omega,hM4,hT4,hC4,hno4,hon5⟩
     case measure=>simp [intOf]
    ·skip
     obtain⟨nc,Ac,Cc,hcf⟩:∃n A C,c4 = .slice A n C:=by obtain⟨A,C,h⟩:=Yd hM4.par.row;exact⟨_,A,C,h⟩
     obtain⟨nd,Ad,Cd,hdf⟩:∃n A C,d4 = .slice A n C:=by obtain⟨_,_,hk,_⟩:=hM4.tree;obtain⟨A,C,h⟩:=Yd hk.row;exact⟨_,A,C,h⟩
     subst hcf hdf
     have hst9:=hide (Qu (by omega) hr hno.out)
     have hB4:Hid (Below w.heap.size w w4):=hide (hwW3.out.trans ((hon5.mono hwW3.out.size).to_below (B':=w.heap.size) (fun k hk=>by have:=hN.out;have:=hWs.out;omega) (Nat.le_refl _)))
     have hfin:Hid (Yaj f w (.returned (.tuple #[.agg #[.string f.name, .slice Ac nc Cc, .int .i64 f.ret, .slice Ad nd Cd], .bool true])) ((((w4.setCell ⟨N+1,0,none⟩ (.string f.name)).setCell ⟨N+1,1,none⟩ (.slice Ac nc Cc)).setCell ⟨N+1,2,none⟩ (.int .i64 f.ret)).setCell ⟨N+1,3,none⟩ (.slice Ad nd Cd))):=hide (step_fin hM4 (fun k hk=>by have:=(hT4.out k hk).1;have:=hN.out;have:=hWs.out;omega) (fun k hk=>by have:=hC4.out k hk;have:=hN.out;have:=hWs.out;omega) hB4.out hN.out (by rw [hst9.out];rfl) (by rw [hst9.out];rfl))
     have m0:w4.cell? ⟨N,0,none⟩=some (.string f.name):=Yb hM4.box 0 rfl
     have m1:=Yb hM4.box 1 rfl
     have m2:w4.cell? ⟨N,2,none⟩=some (.int .i64 f.ret):=Yb hM4.box 2 rfl
     have m3:=Yb hM4.box 3 rfl
     have v0:=R0.out w4 hon5
     have v1:=R1.out w4 hon5
     have v2:=R2.out w4 hon5
     have v3:=R3.out w4 hon5
     have vf:=fun q=>RF.out q w4 hon5
     refine hd2 hM4 hr ?_;clear hM4 hr;intro hM4 hr
     go_wp2
     try simp only [Exit.inBlock,Exit.then]
     refine bodyPost_ret (v := .tuple #[.agg #[.string f.name, .slice Ac nc Cc, .int .i64 f.ret, .slice Ad nd Cd], .bool true]) ?_ rfl ?_
     ·simp [results,Tryz.results10,go_sem,v0,v1,v2,v3]
     ·exact hfin.out
   ·subst hi9
    have gk:=g4.out V hon
    have cR:Hid (Calls Tryz.prog 28 #[.pointer (some ⟨N,0,none⟩)] V (Y7 V T2 N f (fun k=>c2.ownBlock=some k) (Qd f.blocks 4))):=hide (tmerged_any (fun k hk=>hk) hM.out hs.out hwf.out hfr.out)
    replace hM:=hide hM
    go_wp2_with (fail)
    refine cR.out.mono ?_
    intro e w4 hpost
    obtain⟨T4,c4,d4,hT4,hC4,hon4,hres⟩:=hpost.split (B:=W.heap.size) (gf:=gf) hT.out hC.out hWV hgV
    clear hpost gk
    have hon5:=hon.next (Nat.le_refl _) hon4
    refine hd2 hT4 hC4 ?_;clear hT4 hC4;intro hT4 hC4
    rcases hres with⟨hr,rfl,hM4⟩|⟨bs,hr,rfl,hM4⟩
    ·have hno4:Hid (∀j,j<4+1→Qd f.blocks j=none):=hide (fun j hj=>by
      rcases Nat.lt_succ_iff_lt_or_eq.1 hj with h1|h1
      ·exact hno.out j h1
      ·rw [h1];exact hr)
     refine hd2 hM4 hr ?_;clear hM4 hr;intro hM4 hr
     go_wp2
     go_roundw
     case rel=>exact⟨4+1,T4,c4,d4,by go_num,by omega,hM4,hT4,hC4,hno4,hon5⟩
     case measure=>simp [intOf]
    ·skip
     obtain⟨nc,Ac,Cc,hcf⟩:∃n A C,c4 = .slice A n C:=by obtain⟨A,C,h⟩:=Yd hM4.par.row;exact⟨_,A,C,h⟩
     obtain⟨nd,Ad,Cd,hdf⟩:∃n A C,d4 = .slice A n C:=by obtain⟨_,_,hk,_⟩:=hM4.tree;obtain⟨A,C,h⟩:=Yd hk.row;exact⟨_,A,C,h⟩
     subst hcf hdf
     have hst9:=hide (Qu (by omega) hr hno.out)
     have hB4:Hid (Below w.heap.size w w4):=hide (hwW3.out.trans ((hon5.mono hwW3.out.size).to_below (B':=w.heap.size) (fun k hk=>by have:=hN.out;have:=hWs.out;omega) (Nat.le_refl _)))
     have hfin:Hid (Yaj f w (.returned (.tuple #[.agg #[.string f.name, .slice Ac nc Cc, .int .i64 f.ret, .slice Ad nd Cd], .bool true])) ((((w4.setCell ⟨N+1,0,none⟩ (.string f.name)).setCell ⟨N+1,1,none⟩ (.slice Ac nc Cc)).setCell ⟨N+1,2,none⟩ (.int .i64 f.ret)).setCell ⟨N+1,3,none⟩ (.slice Ad nd Cd))):=hide (step_fin hM4 (fun k hk=>by have:=(hT4.out k hk).1;have:=hN.out;have:=hWs.out;omega) (fun k hk=>by have:=hC4.out k hk;have:=hN.out;have:=hWs.out;omega) hB4.out hN.out (by rw [hst9.out];rfl) (by rw [hst9.out];rfl))
     have m0:w4.cell? ⟨N,0,none⟩=some (.string f.name):=Yb hM4.box 0 rfl
     have m1:=Yb hM4.box 1 rfl
     have m2:w4.cell? ⟨N,2,none⟩=some (.int .i64 f.ret):=Yb hM4.box 2 rfl
     have m3:=Yb hM4.box 3 rfl
     have v0:=R0.out w4 hon5
     have v1:=R1.out w4 hon5
     have v2:=R2.out w4 hon5
     have v3:=R3.out w4 hon5
     have vf:=fun q=>RF.out q w4 hon5
     refine hd2 hM4 hr ?_;clear hM4 hr;intro hM4 hr
     go_wp2
     try simp only [Exit.inBlock,Exit.then]
     refine bodyPost_ret (v := .tuple #[.agg #[.string f.name, .slice Ac nc Cc, .int .i64 f.ret, .slice Ad nd Cd], .bool true]) ?_ rfl ?_
     ·simp [results,Tryz.results10,go_sem,v0,v1,v2,v3]
     ·exact hfin.out
  ·obtain rfl : i = 5 := by omega
   obtain⟨nc,Ac,Cc,hcf⟩:∃n A C,c2 = .slice A n C:=by obtain⟨A,C,h⟩:=Yd hM.out.par.row;exact⟨_,A,C,h⟩
   obtain⟨nd,Ad,Cd,hdf⟩:∃n A C,d2 = .slice A n C:=by obtain⟨_,_,hk,_⟩:=hM.out.tree;obtain⟨A,C,h⟩:=Yd hk.row;exact⟨_,A,C,h⟩
   subst hcf hdf
   have hst9:=hide (step_none hno.out)
   have hB4:Hid (Below w.heap.size w V):=hide (hwW3.out.trans ((hon.mono hwW3.out.size).to_below (B':=w.heap.size) (fun k hk=>by have:=hN.out;have:=hWs.out;omega) (Nat.le_refl _)))
   have hfin:Hid (Yaj f w (.returned (.tuple #[.agg #[.string f.name, .slice Ac nc Cc, .int .i64 f.ret, .slice Ad nd Cd], .bool false])) ((((V.setCell ⟨N+1,0,none⟩ (.string f.name)).setCell ⟨N+1,1,none⟩ (.slice Ac nc Cc)).setCell ⟨N+1,2,none⟩ (.int .i64 f.ret)).setCell ⟨N+1,3,none⟩ (.slice Ad nd Cd))):=hide (step_fin hM.out (fun k hk=>by have:=(hT.out k hk).1;have:=hN.out;have:=hWs.out;omega) (fun k hk=>by have:=hC.out k hk;have:=hN.out;have:=hWs.out;omega) hB4.out hN.out (by rw [hst9.out];rfl) (by rw [hst9.out];rfl))
   obtain⟨m0,m1,m2,m3⟩:=bx4 hM.out.box
   have v0:=R0.out V hon
   have v1:=R1.out V hon
   have v2:=R2.out V hon
   have v3:=R3.out V hon
   have vf:=fun q=>RF.out q V hon
   go_wp2
   try simp only [Exit.inBlock,Exit.then]
   refine bodyPost_ret (v := .tuple #[.agg #[.string f.name, .slice Ac nc Cc, .int .i64 f.ret, .slice Ad nd Cd], .bool false]) ?_ rfl ?_
   ·simp [results,Tryz.results10,go_sem,v0,v1,v2,v3]
   ·exact hfin.out
def wt (l:List Ins):Nat:=1+l.length+l.countP fun x=>x.op==32
def mz (bs:List (List Ins)):Nat:=(bs.map wt).sum
structure InvT (I : List (List Ins) → Prop) (f : Fun) : Prop where
 small:∀bs,I bs→Zo (Ye f bs)
 wf:∀bs,I bs→Wf bs
 fr:∀bs,I bs→∀l,l∈bs→Ycm l
 step:∀bs bs',I bs→Yam bs=some bs'→I bs'∧mz bs'<mz bs
def Made (M:Nat) (w:World) (f:Fun) (bs:List (List Ins)) (c d:Value):Prop:=∃(T:Nat→Prop) (N:Nat),MF w T N (Ye f bs) c d∧(∀k,T k→M≤k)∧M≤N∧(∀k,c.ownBlock=some k→M≤k)
theorem Made.kept {M:Nat} {w w':World} {f:Fun} {bs:List (List Ins)} {c d:Value} (h:Made M w f bs c d) (hk:∀k,M≤k→k<w.heap.size→w'.heap[k]? = w.heap[k]?):Made M w' f bs c d:=by
 obtain⟨T,N,h1,h2,h3,h4⟩:=h
 refine⟨T,N,h1.kept fun k hk1 hk2=>hk k ?_ hk1,h2,h3,h4⟩
 rcases hk2 with h5|h5|h5
 ·exact h2 k h5
 ·omega
 ·exact h4 k h5
theorem Made.rep {M:Nat} {w:World} {f:Fun} {bs:List (List Ins)} {c d:Value} (h:Made M w f bs c d):RFun.rep w w.heap.size [.string f.name,c, .int .i64 f.ret,d] (Ye f bs):=by
 obtain⟨T,N,h1, -⟩:=h
 exact h1.rep
theorem Yaj.made {f:Fun} {bs:List (List Ins)} {w w':World} {e:Ending} {M:Nat} (h:Yaj (Ye f bs) w e w') (hM:M≤w.heap.size):∃c d,e = .returned (.tuple #[.agg #[.string f.name,c, .int .i64 f.ret,d], .bool (Yam bs).isSome])∧Made M w' f ((Yam bs).getD bs) c d∧Below w.heap.size w w':=by
 obtain⟨T,N,c,d,h1,h2,h3,h4,h5,h6⟩:=h
 exact⟨c,d,h1,⟨T,N,h2,fun k hk=>Nat.le_trans hM (h3 k hk),Nat.le_trans hM h4,fun k hk=>Nat.le_trans hM (h5 k hk)⟩,h6⟩
theorem put4 {w:World} {N:Nat} {x0 x1 x2 x3 y0 y1 y2 y3:Value} {t:TypeId} (h:w.heap[N]? = some (.cells #[x0,x1,x2,x3] t (0,0))):((((w.setCell ⟨N,0,none⟩ y0).setCell ⟨N,1,none⟩ y1).setCell ⟨N,2,none⟩ y2).setCell ⟨N,3,none⟩ y3).heap[N]? = some (.cells #[y0,y1,y2,y3] t (0,0)):=by
 have h0:=heap_setCell_same w N 0 _ _ y0 h
 have h1:=heap_setCell_same _ N 1 _ _ y1 h0
 have h2:=heap_setCell_same _ N 2 _ _ y2 h1
 have h3:=heap_setCell_same _ N 3 _ _ y3 h2
 simpa using h3
theorem succsL_mem {n:Nat} {tl:List Int} {c:Int}:c∈Qf n tl↔c∈tl∧0≤c∧c<n:=by
 have key:∀(tl acc:List Int),c∈tl.foldl (keepS n) acc↔c∈acc∨(c∈tl∧0≤c∧c<n):=by
  intro tl
  induction tl with
  | nil=>intro acc;simp
  | cons t tl ih =>
   intro acc
   rw [List.foldl_cons,ih]
   unfold keepS
   by_cases h:0≤t∧t<n∧t∉acc
   ·rw [if_pos h, List.mem_append, List.mem_singleton, List.mem_cons]
    constructor
    ·rintro ((h1 | h1) | h1)
     ·exact .inl h1
     ·subst h1;exact .inr ⟨.inl rfl,h.1,h.2.1⟩
     ·exact .inr ⟨.inr h1.1,h1.2⟩
    ·rintro (h1 | ⟨h1 | h1, h2⟩)
     ·exact .inl (.inl h1)
     ·exact .inl (.inr h1)
     ·exact .inr ⟨h1,h2⟩
   ·rw [if_neg h, List.mem_cons]
    constructor
    ·rintro (h1 | h1)
     ·exact .inl h1
     ·exact .inr ⟨.inr h1.1,h1.2⟩
    ·rintro (h1 | ⟨h1 | h1, h2⟩)
     ·exact .inl h1
     ·subst h1
      by_cases h3:c∈acc
      ·exact .inl h3
      ·exact absurd ⟨h2.1,h2.2,h3⟩ h
     ·exact .inr ⟨h1,h2⟩
 unfold Qf
 rw [key]
 simp
def Qt (bs:List (List Ins)) (p:Nat) (c:Int):Prop:=∃x,endI bs p=some x∧(x.op=31∨x.op=32)∧c∈x.to
theorem Zi {bs:List (List Ins)} {p:Nat} {l:List Ins} (h:bs[p]? = some l):endI bs p=l.getLast? := by
 unfold endI
 rw [h,List.getLast?_eq_getElem?]
 rfl
theorem Ya3 {bs:List (List Ins)} {p:Nat} {c:Int} (hc:0≤c∧c<bs.length):Qt bs p c↔c∈Yo bs p:=by
 unfold Qt Yo
 rw [if_pos (by omega),Int.toNat_natCast]
 cases hp:bs[p]? with
 | none =>
  simp [endI,hp]
 | some l =>
  rw [Zi hp]
  unfold succsB
  cases hl:l.getLast? with
  | none=>simp [hl]
  | some x =>
   simp only [hl,Option.some.injEq]
   constructor
   ·rintro ⟨y, rfl, h1, h2⟩
    rw [if_pos h1,succsL_mem]
    exact⟨h2,hc⟩
   ·intro h1
    split at h1
    ·rename_i h2
     exact⟨x,rfl,h2,(succsL_mem.1 h1).1⟩
    ·cases h1
structure LInv (n : Nat) (l : List Ins) : Prop where
 wf:WfB n l
 fr:Ycm l
 mid:∀(i:Nat) x,l[i]? = some x→i+1<l.length→x.op=25∨x.to = []
 fin:∀x,l.getLast? = some x→x.op≠25∧(x.op=31∨x.op=32∨x.to = [])∧∀t,t∈x.to→1≤t
 srt:∀x,x∈l→x.op=25→x.to.Pairwise (· < ·)
 sz:∀x,x∈l→x.args.length≤2000000∧x.to.length≤2000000
def PInv (bs:List (List Ins)) (c:Nat) (l:List Ins):Prop:=∀x,x∈l→x.op=25→c≠0∧∀p:Int,p∈x.to↔(0≤p∧Qt bs p.toNat c)
structure TInv (bs : List (List Ins)) : Prop where
 pos:0<bs.length
 size:mz bs≤2000000
 loc:∀(c:Nat) l,bs[c]? = some l→LInv bs.length l
 phi:∀(c:Nat) l,bs[c]? = some l→PInv bs c l
theorem Yb0 {bs:List (List Ins)} {p:Nat} {c:Int} (h:Qt bs p c):p<bs.length:=by
 obtain⟨x,h1, -, -⟩:=h
 unfold endI at h1
 cases hp:bs[p]? with
 | none=>rw [hp] at h1;cases h1
 | some l=>exact(Js.1 hp).1
theorem LInv.kinds {n:Nat} {l:List Ins} (h:LInv n l) {x:Ins} (hx:x∈l):x.op=25∨x.to = []∨(l.getLast? = some x∧(x.op=31∨x.op=32)):=by
 obtain⟨i,hi⟩:=List.mem_iff_getElem?.1 hx
 have hil:=(Js.1 hi).1
 by_cases h1:i+1<l.length
 ·rcases h.mid i x hi h1 with h2 | h2
  ·exact .inl h2
  ·exact .inr (.inl h2)
 ·have hlast:l.getLast? = some x:=by
   rw [List.getLast?_eq_getElem?,show l.length - 1=i by omega]
   exact hi
  obtain⟨h2,h3, -⟩:=h.fin x hlast
  rcases h3 with h4|h4|h4
  ·exact .inr (.inr ⟨hlast, .inl h4⟩)
  ·exact .inr (.inr ⟨hlast, .inr h4⟩)
  ·exact .inr (.inl h4)
section
variable {gone:List Bool} {n:Nat}
def Kept (gone:List Bool) (c:Nat):Prop:=gone.getD c false=false
theorem leftN_lt {a b:Nat} (hab:a<b) (hb:b≤gone.length) (hk:Kept gone a):Ys gone a<Ys gone b:=by
 induction b with
 | zero=>omega
 | succ b ih =>
  have h1:gone[b]? = some (gone[b]'(by omega)):=Jg _
  rw [Ybg h1]
  by_cases h2:a=b
  ·subst h2
   have h3:gone[a]'(by omega)=false:=by
    unfold Kept at hk
    rw [Jq,h1] at hk
    exact hk
   rw [h3];simp
  ·have := ih (by omega) (by omega)
   omega
theorem leftN_inj {a b:Nat} (ha:a<gone.length) (hb:b<gone.length) (hka:Kept gone a) (hkb:Kept gone b) (h:Ys gone a=Ys gone b):a=b:=by
 rcases Nat.lt_trichotomy a b with h1|h1|h1
 ·have:=leftN_lt h1 (by omega) hka;omega
 ·exact h1
 ·have:=leftN_lt h1 (by omega) hkb;omega
theorem keptN_at (hn:n=gone.length) {c:Nat} (hc:c<n) (hk:Kept gone c):(Z1 gone n)[Ys gone c]? = some c:=by
 subst hn
 have h1:Z1 gone gone.length=Z1 gone (c+1)++((List.range' (c+1) (gone.length - (c+1))).filter fun b => !(gone.getD b false)):=by
  unfold Z1
  rw [←List.filter_append]
  congr 1
  rw [List.range_eq_range',List.range_eq_range']
  have:=List.range'_append_1 (s:=0) (m:=c+1) (n:=gone.length - (c+1))
  rw [Nat.zero_add] at this
  rw [this,show c+1+(gone.length - (c+1))=gone.length by omega]
 have h2:gone[c]? = some false:=by
  unfold Kept at hk
  rw [Jq] at hk
  rw [Jg hc] at hk⊢
  simpa using hk
 have h3:=keptN_len (gone:=gone) (b:=c) (by omega)
 rw [h1,keptN_next h2,List.append_assoc,List.getElem?_append_right (by omega),h3,Nat.sub_self]
 rfl
theorem keptN_kept {c:Nat} (h:c∈Z1 gone n):c<n∧Kept gone c:=by
 obtain⟨h1,h2⟩:=List.mem_filter.1 h
 exact⟨List.mem_range.1 h1,by simpa [Kept] using h2⟩
theorem keptN_left (hn:n=gone.length) {c c':Nat} (h:(Z1 gone n)[c']? = some c):Ys gone c=c':=by
 have h1:=keptN_kept (Jm h)
 have h2:=keptN_at hn h1.1 h1.2
 have h3:=(Js.1 h).1
 have h4:=(Js.1 h2).1
 have h5:=keptN_nodup gone n
 rw [Jg h3] at h
 rw [Jg h4] at h2
 exact(List.getElem_inj h5).1 ((Option.some.inj h2).trans (Option.some.inj h).symm)
theorem without_at (bs:List (List Ins)) {c':Nat} {l':List Ins} (h:(Yn gone bs)[c']? = some l') (hn:bs.length=gone.length):∃c l,bs[c]? = some l∧Kept gone c∧Ys gone c=c'∧l'=l.map (renI gone):=by
 unfold Yn at h
 rw [List.getElem?_map] at h
 cases hc:(Z1 gone bs.length)[c']? with
 | none=>rw [hc] at h;cases h
 | some c =>
  rw [hc] at h
  cases h
  have h1:=keptN_kept (Jm hc)
  exact⟨c,bs.getD c [],Zt h1.1,h1.2,keptN_left hn hc,rfl⟩
theorem without_get (bs:List (List Ins)) {c:Nat} {l:List Ins} (h:bs[c]? = some l) (hn:bs.length=gone.length) (hk:Kept gone c):(Yn gone bs)[Ys gone c]? = some (l.map (renI gone)):=by
 unfold Yn
 rw [List.getElem?_map,keptN_at hn (Js.1 h).1 hk]
 simp only [Option.map_some,Jq,h,Option.getD_some]
theorem without_len (bs:List (List Ins)):(Yn gone bs).length=(Z1 gone bs.length).length:=by unfold Yn;simp
theorem renI_op (x:Ins):(renI gone x).op=x.op:=rfl
theorem renI_to (x:Ins):(renI gone x).to=x.to.map (renT gone):=rfl
theorem renI_args (x:Ins):(renI gone x).args=x.args:=rfl
end
theorem map_last {g:Ins→Ins} {l:List Ins} {y:Ins} (h:(l.map g).getLast? = some y):∃x,l.getLast? = some x∧y=g x:=by
 rw [List.getLast?_map] at h
 cases hl:l.getLast? with
 | none=>rw [hl] at h;cases h
 | some x=>rw [hl] at h;cases h;exact⟨x,rfl,rfl⟩
theorem LInv.map {n n' : Nat} {l : List Ins} (h : LInv n l) (g : Ins → Ins) (hop : ∀ x, (g x).op = x.op) (hargs : ∀ x, x ∈ l → x.op ≠ 25 → (g x).args.length = x.args.length) (hto : ∀ x, x ∈ l → x.op ≠ 25 → (g x).to.length = x.to.length)
  (hlen:∀x,x∈l→x.op=25→(g x).args.length=(g x).to.length) (hsrt:∀x,x∈l→x.op=25→(g x).to.Pairwise (· < ·)) (hrng:∀x,x∈l→∀t,t∈(g x).to→0≤t∧t<n') (hone:∀x,l.getLast? = some x→∀t,t∈(g x).to→1≤t) (hsz:∀x,x∈l→x.op=25→(g x).to.length≤x.to.length):LInv n' (l.map g):=by
 refine⟨⟨?_,?_,?_,?_,?_⟩,?_,?_,?_,?_,?_⟩
 ·have := h.wf.ne
  intro e
  exact this (List.map_eq_nil_iff.1 e)
 ·intro y hy ho
  obtain⟨x,hx,rfl⟩:=List.mem_map.1 hy
  rw [hop] at ho
  rw [hargs x hx (by omega),hto x hx (by omega)]
  exact h.wf.brif x hx ho
 ·intro y hy ho
  obtain⟨x,hx,rfl⟩:=List.mem_map.1 hy
  rw [hop] at ho
  rw [hto x hx (by omega)]
  exact h.wf.br x hx ho
 ·intro y hy ho
  obtain⟨x,hx,rfl⟩:=List.mem_map.1 hy
  rw [hop] at ho
  exact hlen x hx ho
 ·intro y hy t ht
  obtain⟨x,hx,rfl⟩:=List.mem_map.1 hy
  exact hrng x hx t ht
 ·intro i j y z hy hz hij ho
  rw [List.getElem?_map] at hy hz
  cases hi:l[i]? with
  | none=>rw [hi] at hy;cases hy
  | some x =>
   cases hj:l[j]? with
   | none=>rw [hj] at hz;cases hz
   | some x' =>
    rw [hi] at hy
    rw [hj] at hz
    cases hy;cases hz
    rw [hop] at ho⊢
    exact h.fr i j x x' hi hj hij ho
 ·intro i y hy hl
  rw [List.getElem?_map] at hy
  cases hi:l[i]? with
  | none=>rw [hi] at hy;cases hy
  | some x =>
   rw [hi] at hy
   cases hy
   rw [List.length_map] at hl
   rcases h.mid i x hi hl with h1|h1
   ·left;rw [hop];exact h1
   ·by_cases h25 : x.op = 25
    ·left;rw [hop];exact h25
    ·right
     refine List.eq_nil_of_length_eq_zero ?_
     rw [hto x (Jm hi) h25,h1];rfl
 ·intro y hy
  obtain⟨x,hx,rfl⟩:=map_last hy
  obtain⟨h1,h2, -⟩:=h.fin x hx
  refine⟨by rw [hop];exact h1,?_,hone x hx⟩
  rw [hop]
  rcases h2 with h2|h2|h2
  ·exact .inl h2
  ·exact .inr (.inl h2)
  ·right; right
   refine List.eq_nil_of_length_eq_zero ?_
   rw [hto x (List.mem_of_getLast? hx) h1,h2];rfl
 ·intro y hy ho
  obtain⟨x,hx,rfl⟩:=List.mem_map.1 hy
  rw [hop] at ho
  exact hsrt x hx ho
 ·intro y hy
  obtain⟨x,hx,rfl⟩:=List.mem_map.1 hy
  have h1:=h.sz x hx
  by_cases h25:x.op=25
  ·have h2 := hlen x hx h25
   have h3:=hsz x hx h25
   omega
  ·rw [hargs x hx h25,hto x hx h25];exact h1
theorem sorted_ren {gone:List Bool} {tl:List Int} (hs:tl.Pairwise (· < ·)) (hk:∀t,t∈tl→0≤t∧t<gone.length∧Kept gone t.toNat):(tl.map (renT gone)).Pairwise (· < ·):=by
 rw [List.pairwise_map]
 refine hs.imp_of_mem fun {a b} ha hb hab => ?_
 obtain⟨a1,a2,a3⟩:=hk a ha
 obtain⟨b1,b2,b3⟩:=hk b hb
 have:=leftN_lt (gone:=gone) (a:=a.toNat) (b:=b.toNat) (by omega) (by omega) a3
 unfold renT
 omega
theorem mz_cons (l:List Ins) (bs:List (List Ins)):mz (l :: bs)=wt l+mz bs:=by simp [mz]
theorem mz_append (a b:List (List Ins)):mz (a++b)=mz a+mz b:=by simp [mz]
theorem wt_map {g:Ins→Ins} (hop:∀x,(g x).op=x.op) (l:List Ins):wt (l.map g)=wt l:=by
 unfold wt
 rw [List.length_map,List.countP_map]
 congr 1
 refine List.countP_congr fun x _ => ?_
 simp [hop]
theorem mz_len (bs:List (List Ins)):bs.length≤mz bs:=by
 induction bs with
 | nil=>simp [mz]
 | cons l bs ih=>rw [mz_cons];unfold wt;simp only [List.length_cons];omega
theorem mz_mem {bs:List (List Ins)} {l:List Ins} (h:l∈bs):wt l≤mz bs:=by
 induction bs with
 | nil=>cases h
 | cons y bs ih =>
  rw [mz_cons]
  rcases List.mem_cons.1 h with h1|h1
  ·subst h1;omega
  ·have:=ih h1;omega
theorem mz_set {bs:List (List Ins)} {b:Nat} {l l':List Ins} (h:bs[b]? = some l):mz (bs.set b l')+wt l=mz bs+wt l':=by
 induction bs generalizing b with
 | nil=>simp at h
 | cons y bs ih =>
  cases b with
  | zero=>cases h;rw [List.set_cons_zero,mz_cons,mz_cons];omega
  | succ b=>rw [List.set_cons_succ,mz_cons,mz_cons];have:=ih (by simpa using h);omega
theorem mz_kept {bs : List (List Ins)} (gone : List Bool) : ∀ (k : Nat), k ≤ bs.length → mz ((Z1 gone k).map fun b => (bs.getD b []).map (renI gone)) + ((List.range k).filter fun b => gone.getD b false).length ≤ mz (bs.take k)
 | 0,_=>by simp [Z1,mz]
 | k+1,hk=>by
  have ih:=mz_kept (bs:=bs) gone k (by omega)
  have h1:bs[k]? = some (bs.getD k []):=Zt (l:=bs) (by omega)
  have e1:bs.take (k+1)=bs.take k ++ [bs.getD k []]:=Zl h1
  have e2:Z1 gone (k+1)=Z1 gone k++(if gone.getD k false=true then [] else [k]):=by
   unfold Z1
   rw [List.range_succ,List.filter_append,List.filter_cons]
   cases gone.getD k false<;>simp
  rw [e1,e2,List.map_append,mz_append,mz_append,List.range_succ,List.filter_append,List.length_append]
  have e3:mz [bs.getD k []]=wt (bs.getD k []):=by simp [mz]
  have e4:1≤wt (bs.getD k []):=by unfold wt;omega
  rw [e3]
  have a1:mz (List.map (fun b=>(bs.getD b []).map (renI gone)) (if gone.getD k false=true then [] else [k]))+(List.filter (fun b=>gone.getD b false) [k]).length≤wt (bs.getD k []):=by
   cases hg:gone.getD k false with
   | true =>
    rw [if_pos rfl,List.filter_cons,hg,if_pos rfl]
    simpa [mz] using e4
   | false =>
    rw [if_neg (by decide),List.filter_cons,hg,if_neg (by decide)]
    have e6:mz (List.map (fun b=>(bs.getD b []).map (renI gone)) [k])=wt ((bs.getD k []).map (renI gone)):=by simp only [mz,List.map_cons,List.map_nil,List.sum_cons,List.sum_nil,Nat.add_zero]
    rw [e6,wt_map (fun x=>renI_op x)]
    exact Nat.le_refl _
  omega
theorem mz_without {bs:List (List Ins)} {gone:List Bool}:mz (Yn gone bs)+((List.range bs.length).filter fun b=>gone.getD b false).length≤mz bs:=by
 have:=mz_kept (bs:=bs) gone bs.length (Nat.le_refl _)
 rw [List.take_length] at this
 exact this
theorem TInv.without {bs : List (List Ins)} {gone : List Bool} (hn : bs.length = gone.length) (h0 : Kept gone 0) (hpos : 0 < bs.length) (hsz : mz bs ≤ 2000000)
  (hloc:∀(c:Nat) l,bs[c]? = some l→Kept gone c→LInv bs.length l) (hto:∀(c:Nat) l,bs[c]? = some l→Kept gone c→∀x,x∈l→∀t,t∈x.to→Kept gone t.toNat)
  (hphi:∀(c:Nat) l,bs[c]? = some l→Kept gone c→∀x,x∈l→x.op=25→c≠0∧∀p:Int,p∈x.to↔(0≤p∧Kept gone p.toNat∧Qt bs p.toNat c)):TInv (Yn gone bs):=by
 have hlen:=without_len (gone:=gone) bs
 have hleft:∀c,c<bs.length→Kept gone c→Ys gone c<(Yn gone bs).length:=fun c hc hk=>by
  rw [hlen]
  exact(Js.1 (keptN_at hn hc hk)).1
 have hend:∀p c,p<bs.length→c<bs.length→Kept gone p→Kept gone c→(Qt (Yn gone bs) (Ys gone p) (Ys gone c)↔Qt bs p c):=fun p c hp hc hkp hkc=>by
  have hb:bs[p]? = some (bs.getD p []):=Zt hp
  have hb':=without_get bs hb hn hkp
  unfold Qt
  rw [Zi hb,Zi hb',List.getLast?_map]
  cases hl:(bs.getD p []).getLast? with
  | none=>simp
  | some x =>
   have hx:x∈bs.getD p []:=List.mem_of_getLast? hl
   simp only [Option.map_some,Option.some.injEq]
   constructor
   ·rintro ⟨y, rfl, h1, h2⟩
    rw [renI_op] at h1
    rw [renI_to] at h2
    obtain⟨t,ht,h3⟩:=List.mem_map.1 h2
    have hr:=(hloc p _ hb hkp).wf.to_ x hx t ht
    have hk:=hto p _ hb hkp x hx t ht
    have:t.toNat=c:=leftN_inj (by omega) (by omega) hk hkc (by unfold renT at h3;omega)
    refine⟨x,rfl,h1,?_⟩
    rw [show(c:Int)=t by omega]
    exact ht
   ·rintro ⟨y, rfl, h1, h2⟩
    refine⟨renI gone x,rfl,h1,?_⟩
    rw [renI_to]
    exact List.mem_map.2 ⟨(c:Int),h2,by unfold renT;rw [Int.toNat_natCast]⟩
 refine⟨?_,?_,fun c' l' hl' => ?_,fun c' l' hl' => ?_⟩
 ·have := hleft 0 hpos h0
  omega
 ·have := mz_without (bs := bs) (gone := gone)
  omega
 ·obtain ⟨c, l, hl, hk, hc, rfl⟩ := without_at bs hl' hn
  have hli:=hloc c l hl hk
  refine hli.map (renI gone) (fun x=>rfl) (fun x _ _=>rfl) (fun x _ _=>by rw [renI_to,List.length_map]) (fun x hx ho => ?_) (fun x hx ho => ?_) (fun x hx t ht => ?_) (fun x hx t ht => ?_) (fun x hx ho => ?_)
  ·rw [renI_args, renI_to, List.length_map]
   exact hli.wf.phi x hx ho
  ·rw [renI_to]
   refine sorted_ren (hli.srt x hx ho) fun t ht => ?_
   have:=hli.wf.to_ x hx t ht
   exact⟨this.1,by omega,hto c l hl hk x hx t ht⟩
  ·rw [renI_to] at ht
   obtain⟨s,hs,rfl⟩:=List.mem_map.1 ht
   have h1:=hli.wf.to_ x hx s hs
   have h2:=hleft s.toNat (by omega) (hto c l hl hk x hx s hs)
   unfold renT
   omega
  ·rw [renI_to] at ht
   obtain⟨s,hs,rfl⟩:=List.mem_map.1 ht
   have h1:=(hli.fin x hx).2.2 s hs
   have h3:Ys gone 0=0:=by simp [Ys]
   have hxm:=List.mem_of_getLast? hx
   have h4:=hli.wf.to_ x hxm s hs
   have h2:=leftN_lt (gone:=gone) (a:=0) (b:=s.toNat) (by omega) (by omega) h0
   unfold renT
   omega
  ·rw [renI_to,List.length_map];exact Nat.le_refl _
 ·obtain ⟨c, l, hl, hk, hc, rfl⟩ := without_at bs hl' hn
  have hcl:=(Js.1 hl).1
  intro y hy ho
  obtain⟨x,hx,rfl⟩:=List.mem_map.1 hy
  obtain⟨h1,h2⟩:=hphi c l hl hk x hx ho
  have h3:Ys gone 0=0:=by simp [Ys]
  refine⟨?_,fun p => ?_⟩
  ·have := leftN_lt (gone := gone) (a := 0) (b := c) (by omega) (by omega) h0
   omega
  ·rw [renI_to, List.mem_map, ← hc]
   constructor
   ·rintro ⟨q, hq, rfl⟩
    obtain⟨q0,q1,q2⟩:=(h2 q).1 hq
    have q3:=Yb0 q2
    refine⟨by unfold renT;omega,?_⟩
    unfold renT
    rw [Int.toNat_natCast]
    exact(hend q.toNat c q3 hcl q1 hk).2 q2
   ·rintro ⟨p0, p1⟩
    have p2:=Yb0 p1
    rw [hlen] at p2
    obtain⟨q,hq⟩:∃q,(Z1 gone bs.length)[p.toNat]? = some q:=⟨_,Jg p2⟩
    have q1:=keptN_kept (Jm hq)
    have q2:=keptN_left hn hq
    rw [←q2] at p1
    refine⟨(q:Int),(h2 q).2 ⟨by omega,by rw [Int.toNat_natCast];exact q1.2,by rw [Int.toNat_natCast];exact(hend q c q1.1 hcl q1.2 hk).1 p1⟩,?_⟩
    unfold renT
    rw [Int.toNat_natCast,q2]
    omega
end Go.Proofs.YtamjcafjdioidaaGreat
