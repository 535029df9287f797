/- Texts of the chain, without what is not wanted: TdN, TdO. No condition but sizes. -/
import Derived.Test.YtamjcafjdioidaaGreatUv14
import Derived.Test.YtamjcafjdioidaaGreatUv15
set_option linter.unusedVariables false
set_option linter.unusedSimpArgs false
set_option maxRecDepth 100000
set_option maxHeartbeats 12800000
namespace Go.Proofs.YtamjcafjdioidaaGreat
open Go.RowKit
def Qc (bs:List (List Ins)) (i:Nat):Option (List (List Ins)) :=
 match i with
 | 0=>Qd (Yv bs) bs
 | 1=>Ya5 (Yv bs) bs
 | 2=>Qu (Yv bs) bs
 | 3=>Yah (Yv bs) bs
 | _=>Q3 (Zu (Yo bs) bs.length) bs
def Zi (bs:List (List Ins)):Option (List (List Ins)):=((List.range 5).find? fun i=>(Qc bs i).isSome).bind (Qc bs)
theorem Qs {bs bs':List (List Ins)} {i:Nat} (hi:i<5) (h:Qc bs i=some bs') (hno:∀j,j<i→Qc bs j=none):Zi bs=some bs':=by
 unfold Zi
 rw [Qj hi (by rw [h];rfl) (fun j hj=>by rw [hno j hj];rfl)]
 exact h
theorem step_none {bs:List (List Ins)} (hno:∀j,j<5→Qc bs j=none):Zi bs=none:=by
 unfold Zi
 rw [Zb (fun j hj=>by rw [hno j hj];rfl)]
 rfl
def Ya4 (f:Fun) (w:World) (e:Ending) (w':World):Prop :=
 ∃(T:Nat→Prop) (N:Nat) (c d:Value),e = .returned (.tuple #[(Ye f ((Zi f.blocks).getD f.blocks)).v c d, .bool (Zi f.blocks).isSome])∧MF w' T N (Ye f ((Zi f.blocks).getD f.blocks)) c d∧(∀k,T k→w.heap.size≤k)∧w.heap.size≤N∧(∀k,c.ownBlock=some k→w.heap.size≤k)∧Below w.heap.size w w'
theorem step_fin {f g : Fun} {w w' : World} {T' : Nat → Prop} {N : Nat} {c d : Value} {b : Bool} (hM : MF w' T' N g c d) (hT : ∀ k, T' k → N + 2 ≤ k) (hc : ∀ k, c.ownBlock = some k → N + 2 ≤ k) (hB : Below w.heap.size w w') (hN : N = w.heap.size) (hg : g = Ye f ((Zi f.blocks).getD f.blocks)) (hb : b = (Zi f.blocks).isSome) :
  Ya4 f w (.returned (.tuple #[.agg #[.string f.name,c, .int .i64 f.ret,d], .bool b])) ((((w'.setCell ⟨N+1,0,none⟩ (.string f.name)).setCell ⟨N+1,1,none⟩ c).setCell ⟨N+1,2,none⟩ (.int .i64 f.ret)).setCell ⟨N+1,3,none⟩ d):=by
 subst hg hb
 have hk:∀k,k≠N+1→((((w'.setCell ⟨N+1,0,none⟩ (.string f.name)).setCell ⟨N+1,1,none⟩ c).setCell ⟨N+1,2,none⟩ (.int .i64 f.ret)).setCell ⟨N+1,3,none⟩ d).heap[k]? = w'.heap[k]? := fun k h=>by
  rw [Below.heap_setCell _ ⟨N+1,3,none⟩ _ _ h,Below.heap_setCell _ ⟨N+1,2,none⟩ _ _ h,Below.heap_setCell _ ⟨N+1,1,none⟩ _ _ h,Below.heap_setCell _ ⟨N+1,0,none⟩ _ _ h]
 have h1:w.heap.size≤N+1:=by omega
 refine⟨T',N,c,d,rfl,hM.kept fun k _ h2=>hk k ?_,fun k h2=>by have:=hT k h2;omega,by omega,fun k h2=>by have:=hc k h2;omega,(((hB.setCell (p:=⟨N+1,0,none⟩) h1 _).setCell (p:=⟨N+1,1,none⟩) h1 _).setCell (p:=⟨N+1,2,none⟩) h1 _).setCell (p:=⟨N+1,3,none⟩) h1 _⟩
 rcases h2 with h2|h2|h2
 ·have:=hT k h2;omega
 ·omega
 ·have:=hc k h2;omega
theorem Y3.split {w w' : World} {T Cp : Nat → Prop} {N gf B : Nat} {f : Fun} {res : Option (List (List Ins))} {e : Ending} (h : Y3 w T N f Cp res e w') (hT : ∀ k, T k → B ≤ k ∧ k ≠ gf) (hC : ∀ k, Cp k → B ≤ k) (hB : B ≤ w.heap.size) (hg : gf < w.heap.size) :
  ∃(T':Nat→Prop) (c' d':Value),(∀k,T' k→B≤k∧k≠gf)∧(∀k,c'.ownBlock=some k→B≤k)∧Only (fun k=>k=N∨(B≤k∧k≠gf)) w.heap.size w w'∧((res=none∧e = .returned (.bool false)∧MF w' T' N f c' d')∨∃bs,res=some bs∧e = .returned (.bool true)∧MF w' T' N (Ye f bs) c' d'):=by
 obtain⟨T',c',d',h1,h2,h3,h4⟩:=h
 refine⟨T',c',d',fun k hk => ?_,fun k hk => ?_,h3.more fun k _ hk=>hk.imp_right (hT k),?_⟩
 ·rcases h1 k hk with h5 | h5
  ·exact hT k h5
  ·omega
 ·rcases h4 k hk with h5 | h5
  ·exact hC k h5
  ·omega
 ·cases res with
  | none=>exact .inl ⟨rfl,h2.1,h2.2⟩
  | some bs=>exact .inr ⟨bs,rfl,h2.1,h2.2⟩
theorem tstep_any (f : Fun) (c1 d1 : Value) (w : World) (B : Nat) (hB : B ≤ w.heap.size) (hf : RFun.rep w B [.string f.name, c1, .int .i64 f.ret, d1] f) (hs : Zs f) (hwf : Wf f.blocks) (hfr : ∀ l, l ∈ f.blocks → Ycj l) :
  Calls Tryz.prog 10 #[f.v c1 d1] w (Ya4 f w):=by
 obtain⟨-, -, -, -, -,hret,hnm⟩:=id hf
 obtain⟨st,hst⟩:=Jn (Zi f.blocks)
 obtain⟨W,hW,hwW,hWs,hx,hy⟩:=Qb w #[.string f.name,c1, .int .i64 f.ret,d1] #[.string ⟨#[]⟩, .slice none 0 0, .int .i64 0, .slice none 0 0] 32 32
 have cC:Hid (Calls Tryz.prog 23 #[f.v c1 d1] W (CopyTree f W)):=hide (icopytree_any f c1 d1 W B (by omega) (Rp.later hf (hwW.mono hB) (Nat.le_refl _)) hs)
 have q0:∀w',Below W.heap.size W w'→w'.cell? ⟨w.heap.size,0,none⟩=some (.string f.name):=hx 0 _ rfl
 have q1:∀w',Below W.heap.size W w'→w'.cell? ⟨w.heap.size,1,none⟩=some c1:=hx 1 _ rfl
 have q2:∀w',Below W.heap.size W w'→w'.cell? ⟨w.heap.size,2,none⟩=some (.int .i64 f.ret):=hx 2 _ rfl
 have q3:∀w',Below W.heap.size W w'→w'.cell? ⟨w.heap.size,3,none⟩=some d1:=hx 3 _ rfl
 have hbN:Hid (W.heap[w.heap.size]? = some (.cells #[.string f.name,c1, .int .i64 f.ret,d1] 32 (0,0))):=hide (by rw [←hW];exact Ycf _ _ _)
 have hbR:Hid (W.heap[w.heap.size+1]? = some (.cells #[.string ⟨#[]⟩, .slice none 0 0, .int .i64 0, .slice none 0 0] 32 (0,0))):=hide (by rw [←hW];have:=Yt (w.alloc (.cells #[.string f.name,c1, .int .i64 f.ret,d1] 32)) (.cells #[.string ⟨#[]⟩, .slice none 0 0, .int .i64 0, .slice none 0 0] 32);simpa using this)
 have hself:=Below.refl W.heap.size W
 have hwWs:w.heap.size+1<W.heap.size:=by omega
 refine hd9 hWs hwW hW hret hnm hwf hfr hs hf ?_;clear hWs hwW hW hret hnm hwf hfr hs hf;intro hWs hwW hW hret hnm hwf hfr hs hf
 clear hx hy
 go_enter Tryz.func10,Tryz.ntmps10
 go_upto_region 1 with(fail)
 rw [hW.out]
 go_wp2_with (fail)
 refine cC.out.mono ?_
 rintro e w1 ⟨c,d,L,rfl,hc,hcL,hd,hWL,hb1⟩
 have hW1s:=hb1.size
 obtain⟨A1,C1,hcf⟩:=Yd hc.row
 obtain⟨A2,C2,hdf⟩:=hd.form
 subst hcf hdf
 obtain⟨N,hN⟩:=Jn (w.heap.size)
 rw [←hN.out] at hwWs q0 q1 q2 q3 hbN hbR⊢
 have hN1:Hid (w1.heap[N]? = some (.cells #[.string f.name,c1, .int .i64 f.ret,d1] 32 (0,0))):=hide ((hb1.block N (by omega)).trans hbN.out)
 have hR1:Hid (w1.heap[N+1]? = some (.cells #[.string ⟨#[]⟩, .slice none 0 0, .int .i64 0, .slice none 0 0] 32 (0,0))):=hide ((hb1.block (N+1) (by omega)).trans hbR.out)
 obtain⟨w2,hw2⟩:∃w2,Hid ((((w1.setCell ⟨N,0,none⟩ (.string f.name)).setCell ⟨N,1,none⟩ (.slice A1 f.params.length C1)).setCell ⟨N,2,none⟩ (.int .i64 f.ret)).setCell ⟨N,3,none⟩ (.slice A2 f.blocks.length C2)=w2):=⟨_,hide rfl⟩
 have r0:=q0 w1 hb1
 have r1:=q1 w1 hb1
 have r2:=q2 w1 hb1
 have r3:=q3 w1 hb1
 obtain⟨n0,n1,n2,n3⟩:=bx4 hN1.out
 have nf:∀q,w1.frozen? ⟨N,q,none⟩=false:=fun q=>by simp [World.frozen?,hN1.out]
 have hM2:Hid (MF w2 (fun k=>L≤k) N f (.slice A1 f.params.length C1) (.slice A2 f.blocks.length C2)):=hide (by
  rw [←hw2.out]
  exact MF.whole hN1.out (by omega) hWL hc hcL hd hret.out hnm.out)
 have hcW:Hid (∀k,(Value.slice A1 f.params.length C1).ownBlock=some k→W.heap.size≤k):=hide (fun k hk=>(Ya hc.row hk).1)
 have hw2s:Hid (w2.heap.size=w1.heap.size):=hide (by rw [←hw2.out];simp)
 have h2k:Hid (∀k,k≠N→w2.heap[k]? = w1.heap[k]?):=hide (fun k h=>by
  rw [←hw2.out,Below.heap_setCell _ ⟨N,3,none⟩ _ _ h,Below.heap_setCell _ ⟨N,2,none⟩ _ _ h,Below.heap_setCell _ ⟨N,1,none⟩ _ _ h,Below.heap_setCell _ ⟨N,0,none⟩ _ _ h])
 have h2o:Hid (Only (fun k=>k=N) W.heap.size W w2):=hide (by
  rw [←hw2.out]
  have a0:Only (fun k=>k=N) W.heap.size W w1:=Only.of_below hb1
  exact(((((a0).setCell (p:=⟨N,0,none⟩) (.inl rfl) _).setCell (p:=⟨N,1,none⟩) (.inl rfl) _).setCell (p:=⟨N,2,none⟩) (.inl rfl) _).setCell (p:=⟨N,3,none⟩) (.inl rfl) _))
 refine hd4 hc hcL hd hb1 ?_;clear hc hcL hd hb1;intro hc hcL hd hb1
 have hgf:Hid (w1.heap.size=w1.heap.size):=hide rfl
 go_upto_region 2 with(fail)
 rw [hw2.out]
 clear n0 n1 n2 n3 nf r0 r1 r2 r3 q0 q1 q2 q3 hself
 obtain⟨gf,hgf⟩:=Jn (w2.heap.size)
 obtain⟨W3,hW3⟩:∃W3,Hid (w2.alloc (.cells #[.func (.func 24) #[] #[], .func (.func 25) #[] #[], .func (.func 26) #[] #[], .func (.func 27) #[] #[], .func (.func 28) #[] #[]] 52)=W3):=⟨_,hide rfl⟩
 have hb3:Hid (Below w2.heap.size w2 W3):=hide (by rw [←hW3.out];exact(Below.refl _ _).alloc (Nat.le_refl _) _)
 have hF3:Hid (W3.heap[gf]? = some (.cells #[.func (.func 24) #[] #[], .func (.func 25) #[] #[], .func (.func 26) #[] #[], .func (.func 27) #[] #[], .func (.func 28) #[] #[]] 52 (0,0))):=hide (by rw [←hW3.out,hgf.out];exact heap_alloc_new _ _)
 have hgfW3:gf<W3.heap.size:=(Array.getElem?_eq_some_iff.1 hF3.out).1
 have hgW:W.heap.size≤gf:=by rw [hgf.out,hw2s.out];exact hW1s
 have hW3s:Hid (w2.heap.size≤W3.heap.size):=hide hb3.out.size
 have hM3:Hid (MF W3 (fun k=>L≤k∧k<w2.heap.size) N f (.slice A1 f.params.length C1) (.slice A2 f.blocks.length C2)):=hide (hM2.out.cut.below hb3.out)
 have hT3:Hid (∀k,(fun k=>L≤k∧k<w2.heap.size) k→W.heap.size≤k∧k≠gf):=hide (fun k hk=>⟨by have:=hk.1;omega,by have:=hk.2;have:=hgf.out;omega⟩)
 have hno0:Hid (∀j,j<0→Qc f.blocks j=none):=hide (fun j hj=>by omega)
 have hon0:Only (fun k=>k=N∨(W.heap.size≤k∧k≠gf)) W3.heap.size W3 W3:=Only.refl _ _ _
 have hwW3:Hid (Below w.heap.size w W3):=hide (by
  have h1:Only (fun k=>k=N) w.heap.size w W3:=(Only.of_below hwW.out).trans ((h2o.out.mono hwW.out.size).trans (Only.of_below (hb3.out.mono (by have:=hwW.out.size;have:=hw2s.out;omega))))
  exact h1.to_below (B':=w.heap.size) (fun k hk=>by have:=hN.out;omega) (Nat.le_refl _))
 have hR3:Hid (W3.heap[N+1]? = some (.cells #[.string ⟨#[]⟩, .slice none 0 0, .int .i64 0, .slice none 0 0] 32 (0,0))):=hide (by
  rw [hb3.out.block (N+1) (by have:=hw2s.out;omega),h2k.out (N+1) (by omega)]
  exact hR1.out)
 have hN1W3:N+1<W3.heap.size:=(Array.getElem?_eq_some_iff.1 hR3.out).1
 have nQ:¬(N+1=N∨(W.heap.size≤N+1∧N+1≠gf)):=by omega
 have nG:¬(gf=N∨(W.heap.size≤gf∧gf≠gf)):=by omega
 have R0:=Yx (Q:=fun k=>k=N∨(W.heap.size≤k∧k≠gf)) (Yb hR3.out 0 rfl) hN1W3 nQ
 have R1:=Yx (Q:=fun k=>k=N∨(W.heap.size≤k∧k≠gf)) (Yb hR3.out 1 rfl) hN1W3 nQ
 have R2:=Yx (Q:=fun k=>k=N∨(W.heap.size≤k∧k≠gf)) (Yb hR3.out 2 rfl) hN1W3 nQ
 have R3:=Yx (Q:=fun k=>k=N∨(W.heap.size≤k∧k≠gf)) (Yb hR3.out 3 rfl) hN1W3 nQ
 have RF:Hid (∀q w',Only (fun k=>k=N∨(W.heap.size≤k∧k≠gf)) W3.heap.size W3 w'→w'.frozen? ⟨N+1,q,none⟩=false):=hide (fun q=>on_free (Q:=fun k=>k=N∨(W.heap.size≤k∧k≠gf)) (by simp [World.frozen?,hR3.out]) hN1W3 nQ)
 have g0:=hide (Yx (Q:=fun k=>k=N∨(W.heap.size≤k∧k≠gf)) (Yb hF3.out 0 rfl) hgfW3 nG)
 have g1:=hide (Yx (Q:=fun k=>k=N∨(W.heap.size≤k∧k≠gf)) (Yb hF3.out 1 rfl) hgfW3 nG)
 have g2:=hide (Yx (Q:=fun k=>k=N∨(W.heap.size≤k∧k≠gf)) (Yb hF3.out 2 rfl) hgfW3 nG)
 have g3:=hide (Yx (Q:=fun k=>k=N∨(W.heap.size≤k∧k≠gf)) (Yb hF3.out 3 rfl) hgfW3 nG)
 have g4:=hide (Yx (Q:=fun k=>k=N∨(W.heap.size≤k∧k≠gf)) (Yb hF3.out 4 rfl) hgfW3 nG)
 refine hd4 R0 R1 R2 R3 ?_;clear R0 R1 R2 R3;intro R0 R1 R2 R3
 go_upto_region 3 with(fail)
 rw [hW3.out,←hgf.out]
 go_wp2
 go_loopw [10] (fun s wr=>∃(i:Nat) (T2:Nat→Prop) (c2 d2:Value),s = .int .i64 i∧i≤5∧Hid (MF wr T2 N f c2 d2)∧Hid (∀k,T2 k→W.heap.size≤k∧k≠gf)∧Hid (∀k,c2.ownBlock=some k→W.heap.size≤k)∧Hid (∀j,j<i→Qc f.blocks j=none)∧Only (fun k=>k=N∨(W.heap.size≤k∧k≠gf)) W3.heap.size W3 wr) (fun s _=>5 - (intOf s).toNat)
 case atStart=>exact⟨0,_,_,_,rfl,by omega,hM3,hT3,hcW,hno0,hon0⟩
 case round =>
  clear hM3 hT3 hno0 hon0
  rename World=>V
  obtain⟨i,T2,c2,d2,rfl,hi,hM,hT,hC,hno,hon⟩:=hrel
  have hVs:=hon.size
  have hgV:gf<V.heap.size:=by omega
  have hWV:W.heap.size≤V.heap.size:=by omega
  by_cases hlt:i<5
  ·have hcase : i = 0 ∨ i = 1 ∨ i = 2 ∨ i = 3 ∨ i = 4 := by omega
   rcases hcase with hi9|hi9|hi9|hi9|hi9
   ·subst hi9
    have gk:=g0.out V hon
    have cR:Hid (Calls Tryz.prog 24 #[.pointer (some ⟨N,0,none⟩)] V (Y3 V T2 N f (fun k=>c2.ownBlock=some k) (Qc f.blocks 0))):=hide (tdecided_any (fun k hk=>hk) hM.out hs.out hwf.out)
    replace hM:=hide hM
    go_wp2_with (fail)
    refine cR.out.mono ?_
    intro e w4 hpost
    obtain⟨T4,c4,d4,hT4,hC4,hon4,hres⟩:=hpost.split (B:=W.heap.size) (gf:=gf) hT.out hC.out hWV hgV
    clear hpost gk
    have hon5:=hon.next (Nat.le_refl _) hon4
    refine hd2 hT4 hC4 ?_;clear hT4 hC4;intro hT4 hC4
    rcases hres with⟨hr,rfl,hM4⟩|⟨bs,hr,rfl,hM4⟩
    ·have hno4:Hid (∀j,j<0+1→Qc f.blocks j=none):=hide (fun j hj=>by
      rcases Nat.lt_succ_iff_lt_or_eq.1 hj with h1|h1
      ·exact hno.out j h1
      ·rw [h1];exact hr)
     refine hd2 hM4 hr ?_;clear hM4 hr;intro hM4 hr
     go_wp2
     go_roundw
     case rel=>exact⟨0+1,T4,c4,d4,by go_num,by omega,hM4,hT4,hC4,hno4,hon5⟩
     case measure=>simp [intOf]
    ·skip
     obtain⟨nc,Ac,Cc,hcf⟩:∃n A C,c4 = .slice A n C:=by obtain⟨A,C,h⟩:=Yd hM4.par.row;exact⟨_,A,C,h⟩
     obtain⟨nd,Ad,Cd,hdf⟩:∃n A C,d4 = .slice A n C:=by obtain⟨_,_,hk,_⟩:=hM4.tree;obtain⟨A,C,h⟩:=Yd hk.row;exact⟨_,A,C,h⟩
     subst hcf hdf
     have hst9:=hide (Qs (by omega) hr hno.out)
     have hB4:Hid (Below w.heap.size w w4):=hide (hwW3.out.trans ((hon5.mono hwW3.out.size).to_below (B':=w.heap.size) (fun k hk=>by have:=hN.out;have:=hWs.out;omega) (Nat.le_refl _)))
     have hfin:Hid (Ya4 f w (.returned (.tuple #[.agg #[.string f.name, .slice Ac nc Cc, .int .i64 f.ret, .slice Ad nd Cd], .bool true])) ((((w4.setCell ⟨N+1,0,none⟩ (.string f.name)).setCell ⟨N+1,1,none⟩ (.slice Ac nc Cc)).setCell ⟨N+1,2,none⟩ (.int .i64 f.ret)).setCell ⟨N+1,3,none⟩ (.slice Ad nd Cd))):=hide (step_fin hM4 (fun k hk=>by have:=(hT4.out k hk).1;have:=hN.out;have:=hWs.out;omega) (fun k hk=>by have:=hC4.out k hk;have:=hN.out;have:=hWs.out;omega) hB4.out hN.out (by rw [hst9.out];rfl) (by rw [hst9.out];rfl))
     have m0:w4.cell? ⟨N,0,none⟩=some (.string f.name):=Yb hM4.box 0 rfl
     have m1:=Yb hM4.box 1 rfl
     have m2:w4.cell? ⟨N,2,none⟩=some (.int .i64 f.ret):=Yb hM4.box 2 rfl
     have m3:=Yb hM4.box 3 rfl
     have v0:=R0.out w4 hon5
     have v1:=R1.out w4 hon5
     have v2:=R2.out w4 hon5
     have v3:=R3.out w4 hon5
     have vf:=fun q=>RF.out q w4 hon5
     refine hd2 hM4 hr ?_;clear hM4 hr;intro hM4 hr
     go_wp2
     try simp only [Exit.inBlock,Exit.then]
     refine bodyPost_ret (v := .tuple #[.agg #[.string f.name, .slice Ac nc Cc, .int .i64 f.ret, .slice Ad nd Cd], .bool true]) ?_ rfl ?_
     ·simp [results,Tryz.results10,go_sem,v0,v1,v2,v3]
     ·exact hfin.out
   ·subst hi9
    have gk:=g1.out V hon
    have cR:Hid (Calls Tryz.prog 25 #[.pointer (some ⟨N,0,none⟩)] V (Y3 V T2 N f (fun k=>c2.ownBlock=some k) (Qc f.blocks 1))):=hide (ttwice_any (fun k hk=>hk) hM.out hs.out hwf.out)
    replace hM:=hide hM
    go_wp2_with (fail)
    refine cR.out.mono ?_
    intro e w4 hpost
    obtain⟨T4,c4,d4,hT4,hC4,hon4,hres⟩:=hpost.split (B:=W.heap.size) (gf:=gf) hT.out hC.out hWV hgV
    clear hpost gk
    have hon5:=hon.next (Nat.le_refl _) hon4
    refine hd2 hT4 hC4 ?_;clear hT4 hC4;intro hT4 hC4
    rcases hres with⟨hr,rfl,hM4⟩|⟨bs,hr,rfl,hM4⟩
    ·have hno4:Hid (∀j,j<1+1→Qc f.blocks j=none):=hide (fun j hj=>by
      rcases Nat.lt_succ_iff_lt_or_eq.1 hj with h1|h1
      ·exact hno.out j h1
      ·rw [h1];exact hr)
     refine hd2 hM4 hr ?_;clear hM4 hr;intro hM4 hr
     go_wp2
     go_roundw
     case rel=>exact⟨1+1,T4,c4,d4,by go_num,by omega,hM4,hT4,hC4,hno4,hon5⟩
     case measure=>simp [intOf]
    ·skip
     obtain⟨nc,Ac,Cc,hcf⟩:∃n A C,c4 = .slice A n C:=by obtain⟨A,C,h⟩:=Yd hM4.par.row;exact⟨_,A,C,h⟩
     obtain⟨nd,Ad,Cd,hdf⟩:∃n A C,d4 = .slice A n C:=by obtain⟨_,_,hk,_⟩:=hM4.tree;obtain⟨A,C,h⟩:=Yd hk.row;exact⟨_,A,C,h⟩
     subst hcf hdf
     have hst9:=hide (Qs (by omega) hr hno.out)
     have hB4:Hid (Below w.heap.size w w4):=hide (hwW3.out.trans ((hon5.mono hwW3.out.size).to_below (B':=w.heap.size) (fun k hk=>by have:=hN.out;have:=hWs.out;omega) (Nat.le_refl _)))
     have hfin:Hid (Ya4 f w (.returned (.tuple #[.agg #[.string f.name, .slice Ac nc Cc, .int .i64 f.ret, .slice Ad nd Cd], .bool true])) ((((w4.setCell ⟨N+1,0,none⟩ (.string f.name)).setCell ⟨N+1,1,none⟩ (.slice Ac nc Cc)).setCell ⟨N+1,2,none⟩ (.int .i64 f.ret)).setCell ⟨N+1,3,none⟩ (.slice Ad nd Cd))):=hide (step_fin hM4 (fun k hk=>by have:=(hT4.out k hk).1;have:=hN.out;have:=hWs.out;omega) (fun k hk=>by have:=hC4.out k hk;have:=hN.out;have:=hWs.out;omega) hB4.out hN.out (by rw [hst9.out];rfl) (by rw [hst9.out];rfl))
     have m0:w4.cell? ⟨N,0,none⟩=some (.string f.name):=Yb hM4.box 0 rfl
     have m1:=Yb hM4.box 1 rfl
     have m2:w4.cell? ⟨N,2,none⟩=some (.int .i64 f.ret):=Yb hM4.box 2 rfl
     have m3:=Yb hM4.box 3 rfl
     have v0:=R0.out w4 hon5
     have v1:=R1.out w4 hon5
     have v2:=R2.out w4 hon5
     have v3:=R3.out w4 hon5
     have vf:=fun q=>RF.out q w4 hon5
     refine hd2 hM4 hr ?_;clear hM4 hr;intro hM4 hr
     go_wp2
     try simp only [Exit.inBlock,Exit.then]
     refine bodyPost_ret (v := .tuple #[.agg #[.string f.name, .slice Ac nc Cc, .int .i64 f.ret, .slice Ad nd Cd], .bool true]) ?_ rfl ?_
     ·simp [results,Tryz.results10,go_sem,v0,v1,v2,v3]
     ·exact hfin.out
   ·subst hi9
    have gk:=g2.out V hon
    have cR:Hid (Calls Tryz.prog 26 #[.pointer (some ⟨N,0,none⟩)] V (Y3 V T2 N f (fun k=>c2.ownBlock=some k) (Qc f.blocks 2))):=hide (tsingle_any (fun k hk=>hk) hM.out hs.out hwf.out)
    replace hM:=hide hM
    go_wp2_with (fail)
    refine cR.out.mono ?_
    intro e w4 hpost
    obtain⟨T4,c4,d4,hT4,hC4,hon4,hres⟩:=hpost.split (B:=W.heap.size) (gf:=gf) hT.out hC.out hWV hgV
    clear hpost gk
    have hon5:=hon.next (Nat.le_refl _) hon4
    refine hd2 hT4 hC4 ?_;clear hT4 hC4;intro hT4 hC4
    rcases hres with⟨hr,rfl,hM4⟩|⟨bs,hr,rfl,hM4⟩
    ·have hno4:Hid (∀j,j<2+1→Qc f.blocks j=none):=hide (fun j hj=>by
      rcases Nat.lt_succ_iff_lt_or_eq.1 hj with h1|h1
      ·exact hno.out j h1
      ·rw [h1];exact hr)
     refine hd2 hM4 hr ?_;clear hM4 hr;intro hM4 hr
     go_wp2
     go_roundw
     case rel=>exact⟨2+1,T4,c4,d4,by go_num,by omega,hM4,hT4,hC4,hno4,hon5⟩
     case measure=>simp [intOf]
    ·skip
     obtain⟨nc,Ac,Cc,hcf⟩:∃n A C,c4 = .slice A n C:=by obtain⟨A,C,h⟩:=Yd hM4.par.row;exact⟨_,A,C,h⟩
     obtain⟨nd,Ad,Cd,hdf⟩:∃n A C,d4 = .slice A n C:=by obtain⟨_,_,hk,_⟩:=hM4.tree;obtain⟨A,C,h⟩:=Yd hk.row;exact⟨_,A,C,h⟩
     subst hcf hdf
     have hst9:=hide (Qs (by omega) hr hno.out)
     have hB4:Hid (Below w.heap.size w w4):=hide (hwW3.out.trans ((hon5.mono hwW3.out.size).to_below (B':=w.heap.size) (fun k hk=>by have:=hN.out;have:=hWs.out;omega) (Nat.le_refl _)))
     have hfin:Hid (Ya4 f w (.returned (.tuple #[.agg #[.string f.name, .slice Ac nc Cc, .int .i64 f.ret, .slice Ad nd Cd], .bool true])) ((((w4.setCell ⟨N+1,0,none⟩ (.string f.name)).setCell ⟨N+1,1,none⟩ (.slice Ac nc Cc)).setCell ⟨N+1,2,none⟩ (.int .i64 f.ret)).setCell ⟨N+1,3,none⟩ (.slice Ad nd Cd))):=hide (step_fin hM4 (fun k hk=>by have:=(hT4.out k hk).1;have:=hN.out;have:=hWs.out;omega) (fun k hk=>by have:=hC4.out k hk;have:=hN.out;have:=hWs.out;omega) hB4.out hN.out (by rw [hst9.out];rfl) (by rw [hst9.out];rfl))
     have m0:w4.cell? ⟨N,0,none⟩=some (.string f.name):=Yb hM4.box 0 rfl
     have m1:=Yb hM4.box 1 rfl
     have m2:w4.cell? ⟨N,2,none⟩=some (.int .i64 f.ret):=Yb hM4.box 2 rfl
     have m3:=Yb hM4.box 3 rfl
     have v0:=R0.out w4 hon5
     have v1:=R1.out w4 hon5
     have v2:=R2.out w4 hon5
     have v3:=R3.out w4 hon5
     have vf:=fun q=>RF.out q w4 hon5
     refine hd2 hM4 hr ?_;clear hM4 hr;intro hM4 hr
     go_wp2
     try simp only [Exit.inBlock,Exit.then]
     refine bodyPost_ret (v := .tuple #[.agg #[.string f.name, .slice Ac nc Cc, .int .i64 f.ret, .slice Ad nd Cd], .bool true]) ?_ rfl ?_
     ·simp [results,Tryz.results10,go_sem,v0,v1,v2,v3]
     ·exact hfin.out
   ·subst hi9
    have gk:=g3.out V hon
    have cR:Hid (Calls Tryz.prog 27 #[.pointer (some ⟨N,0,none⟩)] V (Y3 V T2 N f (fun k=>c2.ownBlock=some k) (Qc f.blocks 3))):=hide (tunseens_any (fun k hk=>hk) hM.out hs.out hwf.out)
    replace hM:=hide hM
    go_wp2_with (fail)
    refine cR.out.mono ?_
    intro e w4 hpost
    obtain⟨T4,c4,d4,hT4,hC4,hon4,hres⟩:=hpost.split (B:=W.heap.size) (gf:=gf) hT.out hC.out hWV hgV
    clear hpost gk
    have hon5:=hon.next (Nat.le_refl _) hon4
    refine hd2 hT4 hC4 ?_;clear hT4 hC4;intro hT4 hC4
    rcases hres with⟨hr,rfl,hM4⟩|⟨bs,hr,rfl,hM4⟩
    ·have hno4:Hid (∀j,j<3+1→Qc f.blocks j=none):=hide (fun j hj=>by
      rcases Nat.lt_succ_iff_lt_or_eq.1 hj with h1|h1
      ·exact hno.out j h1
      ·rw [h1];exact hr)
     refine hd2 hM4 hr ?_;clear hM4 hr;intro hM4 hr
     go_wp2
     go_roundw
     case rel=>exact⟨3+1,T4,c4,d4,by go_num,by omega,hM4,hT4,hC4,hno4,hon5⟩
     case measure=>simp [intOf]
    ·skip
     obtain⟨nc,Ac,Cc,hcf⟩:∃n A C,c4 = .slice A n C:=by obtain⟨A,C,h⟩:=Yd hM4.par.row;exact⟨_,A,C,h⟩
     obtain⟨nd,Ad,Cd,hdf⟩:∃n A C,d4 = .slice A n C:=by obtain⟨_,_,hk,_⟩:=hM4.tree;obtain⟨A,C,h⟩:=Yd hk.row;exact⟨_,A,C,h⟩
     subst hcf hdf
     have hst9:=hide (Qs (by omega) hr hno.out)
     have hB4:Hid (Below w.heap.size w w4):=hide (hwW3.out.trans ((hon5.mono hwW3.out.size).to_below (B':=w.heap.size) (fun k hk=>by have:=hN.out;have:=hWs.out;omega) (Nat.le_refl _)))
     have hfin:Hid (Ya4 f w (.returned (.tuple #[.agg #[.string f.name, .slice Ac nc Cc, .int .i64 f.ret, .slice Ad nd Cd], .bool true])) ((((w4.setCell ⟨N+1,0,none⟩ (.string f.name)).setCell ⟨N+1,1,none⟩ (.slice Ac nc Cc)).setCell ⟨N+1,2,none⟩ (.int .i64 f.ret)).setCell ⟨N+1,3,none⟩ (.slice Ad nd Cd))):=hide (step_fin hM4 (fun k hk=>by have:=(hT4.out k hk).1;have:=hN.out;have:=hWs.out;omega) (fun k hk=>by have:=hC4.out k hk;have:=hN.out;have:=hWs.out;omega) hB4.out hN.out (by rw [hst9.out];rfl) (by rw [hst9.out];rfl))
     have m0:w4.cell? ⟨N,0,none⟩=some (.string f.name):=Yb hM4.box 0 rfl
     have m1:=Yb hM4.box 1 rfl
     have m2:w4.cell? ⟨N,2,none⟩=some (.int .i64 f.ret):=Yb hM4.box 2 rfl
     have m3:=Yb hM4.box 3 rfl
     have v0:=R0.out w4 hon5
     have v1:=R1.out w4 hon5
     have v2:=R2.out w4 hon5
     have v3:=R3.out w4 hon5
     have vf:=fun q=>RF.out q w4 hon5
     refine hd2 hM4 hr ?_;clear hM4 hr;intro hM4 hr
     go_wp2
     try simp only [Exit.inBlock,Exit.then]
     refine bodyPost_ret (v := .tuple #[.agg #[.string f.name, .slice Ac nc Cc, .int .i64 f.ret, .slice Ad nd Cd], .bool true]) ?_ rfl ?_
     ·simp [results,Tryz.results10,go_sem,v0,v1,v2,v3]
     ·exact hfin.out
   ·subst hi9
    have gk:=g4.out V hon
    have cR:Hid (Calls Tryz.prog 28 #[.pointer (some ⟨N,0,none⟩)] V (Y3 V T2 N f (fun k=>c2.ownBlock=some k) (Qc f.blocks 4))):=hide (tmerged_any (fun k hk=>hk) hM.out hs.out hwf.out hfr.out)
    replace hM:=hide hM
    go_wp2_with (fail)
    refine cR.out.mono ?_
    intro e w4 hpost
    obtain⟨T4,c4,d4,hT4,hC4,hon4,hres⟩:=hpost.split (B:=W.heap.size) (gf:=gf) hT.out hC.out hWV hgV
    clear hpost gk
    have hon5:=hon.next (Nat.le_refl _) hon4
    refine hd2 hT4 hC4 ?_;clear hT4 hC4;intro hT4 hC4
    rcases hres with⟨hr,rfl,hM4⟩|⟨bs,hr,rfl,hM4⟩
    ·have hno4:Hid (∀j,j<4+1→Qc f.blocks j=none):=hide (fun j hj=>by
      rcases Nat.lt_succ_iff_lt_or_eq.1 hj with h1|h1
      ·exact hno.out j h1
      ·rw [h1];exact hr)
     refine hd2 hM4 hr ?_;clear hM4 hr;intro hM4 hr
     go_wp2
     go_roundw
     case rel=>exact⟨4+1,T4,c4,d4,by go_num,by omega,hM4,hT4,hC4,hno4,hon5⟩
     case measure=>simp [intOf]
    ·skip
     obtain⟨nc,Ac,Cc,hcf⟩:∃n A C,c4 = .slice A n C:=by obtain⟨A,C,h⟩:=Yd hM4.par.row;exact⟨_,A,C,h⟩
     obtain⟨nd,Ad,Cd,hdf⟩:∃n A C,d4 = .slice A n C:=by obtain⟨_,_,hk,_⟩:=hM4.tree;obtain⟨A,C,h⟩:=Yd hk.row;exact⟨_,A,C,h⟩
     subst hcf hdf
     have hst9:=hide (Qs (by omega) hr hno.out)
     have hB4:Hid (Below w.heap.size w w4):=hide (hwW3.out.trans ((hon5.mono hwW3.out.size).to_below (B':=w.heap.size) (fun k hk=>by have:=hN.out;have:=hWs.out;omega) (Nat.le_refl _)))
     have hfin:Hid (Ya4 f w (.returned (.tuple #[.agg #[.string f.name, .slice Ac nc Cc, .int .i64 f.ret, .slice Ad nd Cd], .bool true])) ((((w4.setCell ⟨N+1,0,none⟩ (.string f.name)).setCell ⟨N+1,1,none⟩ (.slice Ac nc Cc)).setCell ⟨N+1,2,none⟩ (.int .i64 f.ret)).setCell ⟨N+1,3,none⟩ (.slice Ad nd Cd))):=hide (step_fin hM4 (fun k hk=>by have:=(hT4.out k hk).1;have:=hN.out;have:=hWs.out;omega) (fun k hk=>by have:=hC4.out k hk;have:=hN.out;have:=hWs.out;omega) hB4.out hN.out (by rw [hst9.out];rfl) (by rw [hst9.out];rfl))
     have m0:w4.cell? ⟨N,0,none⟩=some (.string f.name):=Yb hM4.box 0 rfl
     have m1:=Yb hM4.box 1 rfl
     have m2:w4.cell? ⟨N,2,none⟩=some (.int .i64 f.ret):=Yb hM4.box 2 rfl
     have m3:=Yb hM4.box 3 rfl
     have v0:=R0.out w4 hon5
     have v1:=R1.out w4 hon5
     have v2:=R2.out w4 hon5
     have v3:=R3.out w4 hon5
     have vf:=fun q=>RF.out q w4 hon5
     refine hd2 hM4 hr ?_;clear hM4 hr;intro hM4 hr
     go_wp2
     try simp only [Exit.inBlock,Exit.then]
     refine bodyPost_ret (v := .tuple #[.agg #[.string f.name, .slice Ac nc Cc, .int .i64 f.ret, .slice Ad nd Cd], .bool true]) ?_ rfl ?_
     ·simp [results,Tryz.results10,go_sem,v0,v1,v2,v3]
     ·exact hfin.out
  ·obtain rfl : i = 5 := by omega
   obtain⟨nc,Ac,Cc,hcf⟩:∃n A C,c2 = .slice A n C:=by obtain⟨A,C,h⟩:=Yd hM.out.par.row;exact⟨_,A,C,h⟩
   obtain⟨nd,Ad,Cd,hdf⟩:∃n A C,d2 = .slice A n C:=by obtain⟨_,_,hk,_⟩:=hM.out.tree;obtain⟨A,C,h⟩:=Yd hk.row;exact⟨_,A,C,h⟩
   subst hcf hdf
   have hst9:=hide (step_none hno.out)
   have hB4:Hid (Below w.heap.size w V):=hide (hwW3.out.trans ((hon.mono hwW3.out.size).to_below (B':=w.heap.size) (fun k hk=>by have:=hN.out;have:=hWs.out;omega) (Nat.le_refl _)))
   have hfin:Hid (Ya4 f w (.returned (.tuple #[.agg #[.string f.name, .slice Ac nc Cc, .int .i64 f.ret, .slice Ad nd Cd], .bool false])) ((((V.setCell ⟨N+1,0,none⟩ (.string f.name)).setCell ⟨N+1,1,none⟩ (.slice Ac nc Cc)).setCell ⟨N+1,2,none⟩ (.int .i64 f.ret)).setCell ⟨N+1,3,none⟩ (.slice Ad nd Cd))):=hide (step_fin hM.out (fun k hk=>by have:=(hT.out k hk).1;have:=hN.out;have:=hWs.out;omega) (fun k hk=>by have:=hC.out k hk;have:=hN.out;have:=hWs.out;omega) hB4.out hN.out (by rw [hst9.out];rfl) (by rw [hst9.out];rfl))
   obtain⟨m0,m1,m2,m3⟩:=bx4 hM.out.box
   have v0:=R0.out V hon
   have v1:=R1.out V hon
   have v2:=R2.out V hon
   have v3:=R3.out V hon
   have vf:=fun q=>RF.out q V hon
   go_wp2
   try simp only [Exit.inBlock,Exit.then]
   refine bodyPost_ret (v := .tuple #[.agg #[.string f.name, .slice Ac nc Cc, .int .i64 f.ret, .slice Ad nd Cd], .bool false]) ?_ rfl ?_
   ·simp [results,Tryz.results10,go_sem,v0,v1,v2,v3]
   ·exact hfin.out
def wt (l:List Ins):Nat:=1+l.length+l.countP fun x=>x.op==32
def mz (bs:List (List Ins)):Nat:=(bs.map wt).sum
def allF : Nat → List (List Ins) → List (List Ins)
 | 0,bs=>bs
 | k+1,bs=>match Zi bs with|none=>bs|some bs'=>allF k bs'
def allS (bs:List (List Ins)):List (List Ins):=allF (mz bs) bs
structure InvT (I : List (List Ins) → Prop) (f : Fun) : Prop where
 small:∀bs,I bs→Zs (Ye f bs)
 wf:∀bs,I bs→Wf bs
 fr:∀bs,I bs→∀l,l∈bs→Ycj l
 step:∀bs bs',I bs→Zi bs=some bs'→I bs'∧mz bs'<mz bs
section
variable {I:List (List Ins)→Prop} {f:Fun} {bs bs':List (List Ins)}
theorem allF_more (h : InvT I f) : ∀ (k j : Nat) (bs : List (List Ins)), I bs → mz bs ≤ k → mz bs ≤ j → allF k bs = allF j bs
 | 0,0,bs,_,_,_=>rfl
 | 0,j+1,bs,hI,hk,_=>by
  rw [allF,allF]
  cases hs:Zi bs with
  | none=>rfl
  | some bs'=>have:=(h.step bs bs' hI hs).2;omega
 | k+1,0,bs,hI,_,hj=>by
  rw [allF,allF]
  cases hs:Zi bs with
  | none=>rfl
  | some bs'=>have:=(h.step bs bs' hI hs).2;omega
 | k+1,j+1,bs,hI,hk,hj=>by
  rw [allF,allF]
  cases hs:Zi bs with
  | none=>rfl
  | some bs' =>
   have h1:=h.step bs bs' hI hs
   exact allF_more h k j bs' h1.1 (by omega) (by omega)
theorem allS_step (h:InvT I f) (hI:I bs) (hs:Zi bs=some bs'):allS bs=allS bs':=by
 have h1:=h.step bs bs' hI hs
 unfold allS
 obtain⟨m,hm⟩:∃m,mz bs=m+1:=⟨mz bs - 1,by omega⟩
 rw [hm,allF,hs]
 exact allF_more h m (mz bs') bs' h1.1 (by omega) (Nat.le_refl _)
theorem allS_none (hs:Zi bs=none):allS bs=bs:=by
 unfold allS
 cases mz bs with
 | zero=>rfl
 | succ k=>rw [allF,hs]
end
def AllPost (f:Fun) (w:World) (e:Ending) (w':World):Prop :=
 ∃(T:Nat→Prop) (N:Nat) (c d:Value),e = .returned ((Ye f (allS f.blocks)).v c d)∧MF w' T N (Ye f (allS f.blocks)) c d∧(∀k,T k→w.heap.size≤k)∧w.heap.size≤N∧(∀k,c.ownBlock=some k→w.heap.size≤k)∧Below w.heap.size w w'
def Made (M:Nat) (w:World) (f:Fun) (bs:List (List Ins)) (c d:Value):Prop:=∃(T:Nat→Prop) (N:Nat),MF w T N (Ye f bs) c d∧(∀k,T k→M≤k)∧M≤N∧(∀k,c.ownBlock=some k→M≤k)
theorem Made.kept {M:Nat} {w w':World} {f:Fun} {bs:List (List Ins)} {c d:Value} (h:Made M w f bs c d) (hk:∀k,M≤k→k<w.heap.size→w'.heap[k]? = w.heap[k]?):Made M w' f bs c d:=by
 obtain⟨T,N,h1,h2,h3,h4⟩:=h
 refine⟨T,N,h1.kept fun k hk1 hk2=>hk k ?_ hk1,h2,h3,h4⟩
 rcases hk2 with h5|h5|h5
 ·exact h2 k h5
 ·omega
 ·exact h4 k h5
theorem Made.forms {M:Nat} {w:World} {f:Fun} {bs:List (List Ins)} {c d:Value} (h:Made M w f bs c d):∃Ac nc Cc Ad nd Cd,c = .slice Ac nc Cc∧d = .slice Ad nd Cd:=by
 obtain⟨T,N,h1, -⟩:=h
 obtain⟨A,C,h2⟩:=Yd h1.par.row
 obtain⟨xs,ess,hk, -⟩:=h1.tree
 obtain⟨A',C',h3⟩:=Yd hk.row
 exact⟨_,_,_,_,_,_,h2,h3⟩
theorem Made.rep {M:Nat} {w:World} {f:Fun} {bs:List (List Ins)} {c d:Value} (h:Made M w f bs c d):RFun.rep w w.heap.size [.string f.name,c, .int .i64 f.ret,d] (Ye f bs):=by
 obtain⟨T,N,h1, -⟩:=h
 exact h1.rep
theorem Ya4.made {f:Fun} {bs:List (List Ins)} {w w':World} {e:Ending} {M:Nat} (h:Ya4 (Ye f bs) w e w') (hM:M≤w.heap.size):∃c d,e = .returned (.tuple #[.agg #[.string f.name,c, .int .i64 f.ret,d], .bool (Zi bs).isSome])∧Made M w' f ((Zi bs).getD bs) c d∧Below w.heap.size w w':=by
 obtain⟨T,N,c,d,h1,h2,h3,h4,h5,h6⟩:=h
 exact⟨c,d,h1,⟨T,N,h2,fun k hk=>Nat.le_trans hM (h3 k hk),Nat.le_trans hM h4,fun k hk=>Nat.le_trans hM (h5 k hk)⟩,h6⟩
def ghost (b:Bool) (bs:List (List Ins)):Nat:=if b then mz bs+1 else 0
theorem after_step {I:List (List Ins)→Prop} {f:Fun} {bs:List (List Ins)} (h:InvT I f) (hI:I bs):I ((Zi bs).getD bs)∧allS ((Zi bs).getD bs)=allS bs∧((Zi bs).isSome=false→Zi ((Zi bs).getD bs)=none)∧ghost (Zi bs).isSome ((Zi bs).getD bs)<ghost true bs:=by
 unfold ghost
 cases hs:Zi bs with
 | none=>exact⟨hI,rfl,fun _=>hs,by simp⟩
 | some bs' =>
  have h1:=h.step bs bs' hI hs
  exact⟨h1.1,(allS_step h hI hs).symm,fun e=>by simp at e,by simp;omega⟩
theorem all_fin {f : Fun} {bs : List (List Ins)} {w w' : World} {M N : Nat} {c d : Value} (h : Made M w' f bs c d) (hbs : allS f.blocks = bs) (hM : w.heap.size ≤ M) (hNM : N + 1 < M) (hN : N = w.heap.size) (hB : Below w.heap.size w w') :
  AllPost f w (.returned (.agg #[.string f.name,c, .int .i64 f.ret,d])) ((((w'.setCell ⟨N+1,0,none⟩ (.string f.name)).setCell ⟨N+1,1,none⟩ c).setCell ⟨N+1,2,none⟩ (.int .i64 f.ret)).setCell ⟨N+1,3,none⟩ d):=by
 have h9:Made M ((((w'.setCell ⟨N+1,0,none⟩ (.string f.name)).setCell ⟨N+1,1,none⟩ c).setCell ⟨N+1,2,none⟩ (.int .i64 f.ret)).setCell ⟨N+1,3,none⟩ d) f bs c d:=h.kept fun k h1 _=>by
  have h2:k≠N+1:=by omega
  rw [Below.heap_setCell _ ⟨N+1,3,none⟩ _ _ h2,Below.heap_setCell _ ⟨N+1,2,none⟩ _ _ h2,Below.heap_setCell _ ⟨N+1,1,none⟩ _ _ h2,Below.heap_setCell _ ⟨N+1,0,none⟩ _ _ h2]
 have h1:w.heap.size≤N+1:=by omega
 obtain⟨T,N',h2,h3,h4,h5⟩:=h9
 subst hbs
 exact⟨T,N',c,d,rfl,h2,fun k hk=>Nat.le_trans hM (h3 k hk),Nat.le_trans hM h4,fun k hk=>Nat.le_trans hM (h5 k hk),(((hB.setCell (p:=⟨N+1,0,none⟩) h1 _).setCell (p:=⟨N+1,1,none⟩) h1 _).setCell (p:=⟨N+1,2,none⟩) h1 _).setCell (p:=⟨N+1,3,none⟩) h1 _⟩
theorem put4 {w:World} {N:Nat} {x0 x1 x2 x3 y0 y1 y2 y3:Value} {t:TypeId} (h:w.heap[N]? = some (.cells #[x0,x1,x2,x3] t (0,0))):((((w.setCell ⟨N,0,none⟩ y0).setCell ⟨N,1,none⟩ y1).setCell ⟨N,2,none⟩ y2).setCell ⟨N,3,none⟩ y3).heap[N]? = some (.cells #[y0,y1,y2,y3] t (0,0)):=by
 have h0:=heap_setCell_same w N 0 _ _ y0 h
 have h1:=heap_setCell_same _ N 1 _ _ y1 h0
 have h2:=heap_setCell_same _ N 2 _ _ y2 h1
 have h3:=heap_setCell_same _ N 3 _ _ y3 h2
 simpa using h3
theorem tall_any {I : List (List Ins) → Prop} (f : Fun) (hinv : InvT I f) (hI0 : I f.blocks) (c1 d1 : Value) (w : World) (B : Nat) (hB : B ≤ w.heap.size) (hf : RFun.rep w B [.string f.name, c1, .int .i64 f.ret, d1] f) :
  Calls Tryz.prog 14 #[f.v c1 d1] w (AllPost f w):=by
 obtain⟨W,hW,hwW,hWs,hx,hy⟩:=Qb w #[.string f.name,c1, .int .i64 f.ret,d1] #[.string ⟨#[]⟩, .slice none 0 0, .int .i64 0, .slice none 0 0] 32 32
 have cS:Hid (Calls Tryz.prog 10 #[f.v c1 d1] W (fun e w'=>∃c d,e = .returned (.tuple #[.agg #[.string f.name,c, .int .i64 f.ret,d], .bool (Zi f.blocks).isSome])∧Made W.heap.size w' f ((Zi f.blocks).getD f.blocks) c d∧Below W.heap.size W w')):=hide ((tstep_any f c1 d1 W B (by omega) (Rp.later hf (hwW.mono hB) (Nat.le_refl _)) (hinv.small _ hI0) (hinv.wf _ hI0) (hinv.fr _ hI0)).mono fun e w' h=>h.made (Nat.le_refl _))
 have q0:∀w',Below W.heap.size W w'→w'.cell? ⟨w.heap.size,0,none⟩=some (.string f.name):=hx 0 _ rfl
 have q1:∀w',Below W.heap.size W w'→w'.cell? ⟨w.heap.size,1,none⟩=some c1:=hx 1 _ rfl
 have q2:∀w',Below W.heap.size W w'→w'.cell? ⟨w.heap.size,2,none⟩=some (.int .i64 f.ret):=hx 2 _ rfl
 have q3:∀w',Below W.heap.size W w'→w'.cell? ⟨w.heap.size,3,none⟩=some d1:=hx 3 _ rfl
 have hbN:Hid (W.heap[w.heap.size]? = some (.cells #[.string f.name,c1, .int .i64 f.ret,d1] 32 (0,0))):=hide (by rw [←hW];exact Ycf _ _ _)
 have hbR:Hid (W.heap[w.heap.size+1]? = some (.cells #[.string ⟨#[]⟩, .slice none 0 0, .int .i64 0, .slice none 0 0] 32 (0,0))):=hide (by rw [←hW];have:=Yt (w.alloc (.cells #[.string f.name,c1, .int .i64 f.ret,d1] 32)) (.cells #[.string ⟨#[]⟩, .slice none 0 0, .int .i64 0, .slice none 0 0] 32);simpa using this)
 have hself:=Below.refl W.heap.size W
 have hwWs:w.heap.size+1<W.heap.size:=by omega
 refine hd6 hWs hwW hW hf hinv hI0 ?_;clear hWs hwW hW hf hinv hI0;intro hWs hwW hW hf hinv hI0
 clear hx hy
 obtain⟨N,hN⟩:=Jn (w.heap.size)
 go_enter Tryz.func14,Tryz.ntmps14
 go_upto_region 1 with(fail)
 rw [hW.out]
 rw [←hN.out] at hwWs q0 q1 q2 q3 hbN hbR⊢
 obtain⟨st,hst⟩:=Jn ((Zi f.blocks).isSome)
 rw [←hst.out] at cS
 go_wp2_with (fail)
 refine cS.out.mono ?_
 rintro e w1 ⟨c,d,rfl,hm1,hb1⟩
 obtain⟨Ac,nc,Cc,Ad,nd,Cd,hcf,hdf⟩:=hm1.forms
 subst hcf hdf
 have hW1s:=hb1.size
 have hN1:Hid (w1.heap[N]? = some (.cells #[.string f.name,c1, .int .i64 f.ret,d1] 32 (0,0))):=hide ((hb1.block N (by omega)).trans hbN.out)
 have hR1:Hid (w1.heap[N+1]? = some (.cells #[.string ⟨#[]⟩, .slice none 0 0, .int .i64 0, .slice none 0 0] 32 (0,0))):=hide ((hb1.block (N+1) (by omega)).trans hbR.out)
 obtain⟨n0,n1,n2,n3⟩:=bx4 hN1.out
 have nf:∀q,w1.frozen? ⟨N,q,none⟩=false:=fun q=>by simp [World.frozen?,hN1.out]
 obtain⟨w2,hw2⟩:∃w2,Hid ((((w1.setCell ⟨N,0,none⟩ (.string f.name)).setCell ⟨N,1,none⟩ (.slice Ac nc Cc)).setCell ⟨N,2,none⟩ (.int .i64 f.ret)).setCell ⟨N,3,none⟩ (.slice Ad nd Cd)=w2):=⟨_,hide rfl⟩
 have hbox2:Hid (w2.heap[N]? = some (.cells #[.string f.name, .slice Ac nc Cc, .int .i64 f.ret, .slice Ad nd Cd] 32 (0,0))):=hide (by rw [←hw2.out];exact put4 hN1.out)
 have h2k:Hid (∀k,k≠N→w2.heap[k]? = w1.heap[k]?):=hide (fun k h=>by
  rw [←hw2.out,Below.heap_setCell _ ⟨N,3,none⟩ _ _ h,Below.heap_setCell _ ⟨N,2,none⟩ _ _ h,Below.heap_setCell _ ⟨N,1,none⟩ _ _ h,Below.heap_setCell _ ⟨N,0,none⟩ _ _ h])
 have hm2:Hid (Made W.heap.size w2 f ((Zi f.blocks).getD f.blocks) (.slice Ac nc Cc) (.slice Ad nd Cd)):=hide (hm1.kept fun k h1 _=>h2k.out k (by omega))
 have h2o:Only (fun k=>k=N) W.heap.size W w2:=by
  rw [←hw2.out]
  have a0:Only (fun k=>k=N) W.heap.size W w1:=Only.of_below hb1
  exact(((a0.setCell (p:=⟨N,0,none⟩) (.inl rfl) _).setCell (p:=⟨N,1,none⟩) (.inl rfl) _).setCell (p:=⟨N,2,none⟩) (.inl rfl) _).setCell (p:=⟨N,3,none⟩) (.inl rfl) _
 have has:=after_step hinv.out hI0.out
 rw [←hst.out] at has
 have has0:=hide has.1
 have has1:=hide has.2.1
 have has2:=hide has.2.2.1
 clear has
 refine hd2 hm1 hb1 ?_;clear hm1 hb1;intro hm1 hb1
 clear q0 q1 q2 q3 hself
 go_upto_region 2 with(fail)
 rw [hw2.out]
 clear n0 n1 n2 n3 nf
 go_loopg [3] (ghost st ((Zi f.blocks).getD f.blocks)) (fun k s wr=>∃(bs:List (List Ins)) (b:Bool) (A1:Option Addr) (m1 C1:Nat) (A2:Option Addr) (m2 C2:Nat),s = .bool b∧Hid (ghost b bs=k)∧Hid (I bs)∧Hid (allS bs=allS f.blocks)∧Hid (b=false→Zi bs=none)∧Hid (Made W.heap.size wr f bs (.slice A1 m1 C1) (.slice A2 m2 C2))∧Hid (wr.heap[N]? = some (.cells #[.string f.name, .slice A1 m1 C1, .int .i64 f.ret, .slice A2 m2 C2] 32 (0,0)))∧Only (fun k=>k=N) W.heap.size W wr)
 case atStart=>exact⟨(Zi f.blocks).getD f.blocks,st,_,_,_,_,_,_,rfl,hide rfl,has0,has1,has2,hm2,hbox2,h2o⟩
 case round =>
  clear hm2 hbox2 h2o has0 has1 has2
  rename World=>V
  obtain⟨bs,b,A1,m1,C1,A2,m2,C2,rfl,hgk,hI,hall,hfix,hm,hbox,hon⟩:=hrel
  have hVs:=hon.size
  obtain⟨n0,n1,n2,n3⟩:=bx4 hbox.out
  cases b with
  | true =>
   obtain⟨st2,hst2⟩:=Jn ((Zi bs).isSome)
   have cS2:Hid (Calls Tryz.prog 10 #[f.v (.slice A1 m1 C1) (.slice A2 m2 C2)] V (fun e w'=>∃c d,e = .returned (.tuple #[.agg #[.string f.name,c, .int .i64 f.ret,d], .bool st2])∧Made W.heap.size w' f ((Zi bs).getD bs) c d∧Below V.heap.size V w')):=hide (by
    rw [hst2.out]
    exact(tstep_any (Ye f bs) (.slice A1 m1 C1) (.slice A2 m2 C2) V V.heap.size (Nat.le_refl _) hm.out.rep (hinv.out.small _ hI.out) (hinv.out.wf _ hI.out) (hinv.out.fr _ hI.out)).mono fun e w' h=>h.made hVs)
   go_wp2_with (fail)
   refine cS2.out.mono ?_
   rintro e w4 ⟨c,d,rfl,hm4,hb4⟩
   obtain⟨Ac4,nc4,Cc4,Ad4,nd4,Cd4,hcf,hdf⟩:=hm4.forms
   subst hcf hdf
   have hbox4:Hid (w4.heap[N]? = some (.cells #[.string f.name, .slice A1 m1 C1, .int .i64 f.ret, .slice A2 m2 C2] 32 (0,0))):=hide ((hb4.block N (by omega)).trans hbox.out)
   obtain⟨p0,p1,p2,p3⟩:=bx4 hbox4.out
   have pf:∀q,w4.frozen? ⟨N,q,none⟩=false:=fun q=>by simp [World.frozen?,hbox4.out]
   have hbox5:Hid (((((w4.setCell ⟨N,0,none⟩ (.string f.name)).setCell ⟨N,1,none⟩ (.slice Ac4 nc4 Cc4)).setCell ⟨N,2,none⟩ (.int .i64 f.ret)).setCell ⟨N,3,none⟩ (.slice Ad4 nd4 Cd4)).heap[N]? = some (.cells #[.string f.name, .slice Ac4 nc4 Cc4, .int .i64 f.ret, .slice Ad4 nd4 Cd4] 32 (0,0))):=hide (put4 hbox4.out)
   have hm5:Hid (Made W.heap.size ((((w4.setCell ⟨N,0,none⟩ (.string f.name)).setCell ⟨N,1,none⟩ (.slice Ac4 nc4 Cc4)).setCell ⟨N,2,none⟩ (.int .i64 f.ret)).setCell ⟨N,3,none⟩ (.slice Ad4 nd4 Cd4)) f ((Zi bs).getD bs) (.slice Ac4 nc4 Cc4) (.slice Ad4 nd4 Cd4)):=hide (hm4.kept fun k h1 _=>by
    have h:k≠N:=by omega
    rw [Below.heap_setCell _ ⟨N,3,none⟩ _ _ h,Below.heap_setCell _ ⟨N,2,none⟩ _ _ h,Below.heap_setCell _ ⟨N,1,none⟩ _ _ h,Below.heap_setCell _ ⟨N,0,none⟩ _ _ h])
   have hon4:Only (fun k=>k=N) W.heap.size W w4:=hon.next (Nat.le_refl _) (Only.of_below hb4)
   have hon5:Only (fun k=>k=N) W.heap.size W ((((w4.setCell ⟨N,0,none⟩ (.string f.name)).setCell ⟨N,1,none⟩ (.slice Ac4 nc4 Cc4)).setCell ⟨N,2,none⟩ (.int .i64 f.ret)).setCell ⟨N,3,none⟩ (.slice Ad4 nd4 Cd4)):=(((hon4.setCell (p:=⟨N,0,none⟩) (.inl rfl) _).setCell (p:=⟨N,1,none⟩) (.inl rfl) _).setCell (p:=⟨N,2,none⟩) (.inl rfl) _).setCell (p:=⟨N,3,none⟩) (.inl rfl) _
   have has:=after_step hinv.out hI.out
   rw [←hst2.out] at has
   have ha0:=hide has.1
   have ha1:Hid (allS ((Zi bs).getD bs)=allS f.blocks):=hide (has.2.1.trans hall.out)
   have ha2:=hide has.2.2.1
   have ha3:=hide has.2.2.2
   clear has
   refine hd2 hm4 hb4 ?_;clear hm4 hb4;intro hm4 hb4
   clear n0 n1 n2 n3
   go_wp2
   go_roundg (ghost st2 ((Zi bs).getD bs))
   case measure=>rw [←hgk.out];exact ha3.out
   case rel=>exact⟨(Zi bs).getD bs,st2,_,_,_,_,_,_,rfl,hide rfl,ha0,ha1,ha2,hm5,hbox5,hon5⟩
  | false =>
   have hbs:Hid (allS f.blocks=bs):=hide (hall.out.symm.trans (allS_none (hfix.out rfl)))
   have hBw:Hid (Below w.heap.size w V):=hide (hwW.out.trans ((hon.mono hwW.out.size).to_below (B':=w.heap.size) (fun k hk=>by have:=hN.out;omega) (Nat.le_refl _)))
   have hRV:Hid (V.heap[N+1]? = some (.cells #[.string ⟨#[]⟩, .slice none 0 0, .int .i64 0, .slice none 0 0] 32 (0,0))):=hide ((hon.block (N+1) (by omega) (by omega)).trans hbR.out)
   have hfin:=hide (all_fin (w:=w) (N:=N) hm.out hbs.out hwW.out.size hwWs hN.out hBw.out)
   obtain⟨v0,v1,v2,v3⟩:=bx4 hRV.out
   have vf:∀q,V.frozen? ⟨N+1,q,none⟩=false:=fun q=>by simp [World.frozen?,hRV.out]
   go_wp2
   try simp only [Exit.inBlock,Exit.then]
   refine bodyPost_ret (v := .agg #[.string f.name, .slice A1 m1 C1, .int .i64 f.ret, .slice A2 m2 C2]) ?_ rfl ?_
   ·simp [results,Tryz.results14,go_sem,v0,v1,v2,v3]
   ·exact hfin.out
end Go.Proofs.YtamjcafjdioidaaGreat
