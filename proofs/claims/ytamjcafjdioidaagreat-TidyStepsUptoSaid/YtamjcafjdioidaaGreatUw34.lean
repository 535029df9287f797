/- Texts of the chain, without what is not wanted: SpA, TrB, RfU. No condition but sizes. -/
import Derived.Test.YtamjcafjdioidaaGreatUw33
set_option linter.unusedVariables false
set_option linter.unusedSimpArgs false
set_option maxRecDepth 100000
set_option maxHeartbeats 12800000
namespace Go.Proofs.YtamjcafjdioidaaGreat
open Go.RowKit
section
variable {S:Nat→Nat→Prop} {w w' W:World}
theorem Ty.refl (S:Nat→Nat→Prop) (w:World):Ty S w w:=fun _ _ _ c _ hc=>⟨c,hc,rfl⟩
theorem Ty.trans {a b c:World} (h:Ty S a b) (h':Ty S b c):Ty S a c:=fun k m hs cs t hc=>by
 obtain⟨c1,h1,h2⟩:=h k m hs cs t hc
 obtain⟨c2,h3,h4⟩:=h' k m hs c1 t h1
 exact⟨c2,h3,h4.trans h2⟩
theorem Ty.heap (h:Ty S W w) (e:∀k,Dm S k→w'.heap[k]? = w.heap[k]?):Ty S W w':=fun k m hs cs t hc=>by
 obtain⟨c1,h1,h2⟩:=h k m hs cs t hc
 exact⟨c1,(e k ⟨m,hs⟩).trans h1,h2⟩
theorem Ty.setCell (h:Ty S W w) (g j:Nat) (v:Value):Ty S W (w.setCell ⟨g,j,none⟩ v):=fun k m hs cs t hc=>by
 obtain⟨c1,h1,h2⟩:=h k m hs cs t hc
 by_cases e:k=g
 ·subst e;exact⟨_,Yr h1,by simpa using h2⟩
 ·exact⟨c1,(Below.heap_setCell _ _ _ _ e).trans h1,h2⟩
def put7 (w:World) (g o:Nat) (a:Int):World:=((((((w.setCell ⟨g,o,none⟩ (.int .i64 a)).setCell ⟨g,o+1,none⟩ (.int .i64 0)).setCell ⟨g,o+2,none⟩ (.int .i64 0)).setCell ⟨g,o+3,none⟩ (.int .i64 0)).setCell ⟨g,o+4,none⟩ (.int .i64 0)).setCell ⟨g,o+5,none⟩ (.slice none 0 0)).setCell ⟨g,o+6,none⟩ (.slice none 0 0)
theorem Sh.put7 (h:Sh S w) {g k:Nat} {c:Array Value} (hg:w.heap[g]? = some (.cells c 44 (0,0))) (a:Int):Sh S (put7 w g (k*7) a):=by
 unfold Go.Proofs.YtamjcafjdioidaaGreat.put7
 have one:∀(w:World) (c:Array Value) (j:Nat) (v:Value),Sh S w→w.heap[g]? = some (.cells c 44 (0,0))→(∀w',CellOk S w' 44 j v)→Sh S (w.setCell ⟨g,j,none⟩ v)∧∃c',(w.setCell ⟨g,j,none⟩ v).heap[g]? = some (.cells c' 44 (0,0)):=fun w c j v h hg hv=>⟨h.set hg (hv w),_,Yr hg⟩
 obtain⟨s1,c1,g1⟩:=one _ _ (k*7) (.int .i64 a) h hg fun w'=>Yaa (fun e=>by omega) (fun e=>by omega) (fun _=>⟨_,rfl⟩)
 obtain⟨s2,c2,g2⟩:=one _ _ (k*7+1) (.int .i64 0) s1 g1 fun w'=>Yaa (fun e=>by omega) (fun e=>by omega) (fun _=>⟨_,rfl⟩)
 obtain⟨s3,c3,g3⟩:=one _ _ (k*7+2) (.int .i64 0) s2 g2 fun w'=>Yaa (fun e=>by omega) (fun e=>by omega) (fun _=>⟨_,rfl⟩)
 obtain⟨s4,c4,g4⟩:=one _ _ (k*7+3) (.int .i64 0) s3 g3 fun w'=>Yaa (fun e=>by omega) (fun e=>by omega) (fun _=>⟨_,rfl⟩)
 obtain⟨s5,c5,g5⟩:=one _ _ (k*7+4) (.int .i64 0) s4 g4 fun w'=>Yaa (fun e=>by omega) (fun e=>by omega) (fun _=>⟨_,rfl⟩)
 obtain⟨s6,c6,g6⟩:=one _ _ (k*7+5) (.slice none 0 0) s5 g5 fun w'=>Yaa (fun e => .none_) (fun e=>by omega) (fun e=>by omega)
 exact(one _ _ (k*7+6) (.slice none 0 0) s6 g6 fun w'=>Yaa (fun e=>by omega) (fun e => .none_) (fun e=>by omega)).1
theorem Sh.put3 (h:Sh S w) {g o:Nat} {c:Array Value} (hg:w.heap[g]? = some (.cells c 62 (0,0))) (a b d:Value):Sh S (((w.setCell ⟨g,o,none⟩ a).setCell ⟨g,o+1,none⟩ b).setCell ⟨g,o+2,none⟩ d) :=
 ((h.set hg cellOk_value).set (Yr hg) cellOk_value).set (Yr (Yr hg)) cellOk_value
theorem Sh.seven (h:Sh S w) {g m k n:Nat} {c0:Array Value} (hs:S g m) (hc:w.heap[g]? = some (.cells c0 44 (0,0))) (hk:k<n) (hn:n*7≤m):∃(u0 u1 u2 u3 u4:Int) (A:Option Addr) (a C:Nat) (A':Option Addr) (a' C':Nat),w.cell? ⟨g,k*7,none⟩=some (.int .i64 u0)∧w.cell? ⟨g,k*7+1,none⟩=some (.int .i64 u1)∧w.cell? ⟨g,k*7+2,none⟩=some (.int .i64 u2)∧w.cell? ⟨g,k*7+3,none⟩=some (.int .i64 u3)∧w.cell? ⟨g,k*7+4,none⟩=some (.int .i64 u4)∧w.cell? ⟨g,k*7+5,none⟩=some (.slice A a C)∧w.cell? ⟨g,k*7+6,none⟩=some (.slice A' a' C')∧SlOk S w 62 3 (.slice A a C)∧SlOk S w 3 1 (.slice A' a' C'):=by
 obtain⟨-,hce⟩:=h.cells hs hc
 obtain⟨v0,h0,o0⟩:=hce (k*7) (by omega)
 obtain⟨u0,rfl⟩:=(o0.2.1 rfl).2.2 (by omega)
 obtain⟨v1,h1,o1⟩:=hce (k*7+1) (by omega)
 obtain⟨u1,rfl⟩:=(o1.2.1 rfl).2.2 (by omega)
 obtain⟨v2,h2,o2⟩:=hce (k*7+2) (by omega)
 obtain⟨u2,rfl⟩:=(o2.2.1 rfl).2.2 (by omega)
 obtain⟨v3,h3,o3⟩:=hce (k*7+3) (by omega)
 obtain⟨u3,rfl⟩:=(o3.2.1 rfl).2.2 (by omega)
 obtain⟨v4,h4,o4⟩:=hce (k*7+4) (by omega)
 obtain⟨u4,rfl⟩:=(o4.2.1 rfl).2.2 (by omega)
 obtain⟨u5,h5,o5⟩:=hce (k*7+5) (by omega)
 obtain⟨u6,h6,o6⟩:=hce (k*7+6) (by omega)
 have s5:=(o5.2.1 rfl).1 (by omega)
 have s6:=(o6.2.1 rfl).2.1 (by omega)
 obtain⟨A,a,C,e5, -⟩:=id s5
 obtain⟨A',a',C',e6, -⟩:=id s6
 subst e5;subst e6
 exact⟨u0,u1,u2,u3,u4,A,a,C,A',a',C',h0,h1,h2,h3,h4,h5,h6,s5,s6⟩
theorem type_ne {g g':Nat} {c c':Array Value} {T T':TypeId} (h:w.heap[g]? = some (.cells c T (0,0))) (h':w.heap[g']? = some (.cells c' T' (0,0))) (hT:T≠T'):g≠g':=by
 rintro rfl
 rw [h] at h'
 injection h' with h'
 injection h' with _ h1
 exact hT h1
end
def SpoilPost (S:Nat→Nat→Prop) (w:World) (e:Ending) (w':World):Prop:=e = .returned (.tuple #[])∧Only (Dm S) w.heap.size w w'∧Sh S w'∧Ty S w w'
theorem spoil_any (nm : ByteArray) (ret : Int) (A1 : Option Addr) (np k1 : Nat) (A2 : Option Addr) (n k2 : Nat) (S : Nat → Nat → Prop) (w : World) (hSh : Sh S w) (hp : SlOk S w 3 1 (.slice A1 np k1)) (hb : SlOk S w 41 1 (.slice A2 n k2)) :
  Calls Tryz.prog 13 #[.agg #[.string nm, .slice A1 np k1, .int .i64 ret, .slice A2 n k2]] w (SpoilPost S w):=by
 have hnp8:np≤2000000:=by obtain⟨_,_,_,e,h, -⟩:=hp;cases e;exact h
 have hn8:n≤2000000:=by obtain⟨_,_,_,e,h, -⟩:=hb;cases e;exact h
 obtain⟨W,hW,hwW,hWs,hx⟩:=Y6 w #[.string nm, .slice A1 np k1, .int .i64 ret, .slice A2 n k2] 32
 have hNf:¬Dm S w.heap.size:=fun h=>by have:=hSh.lt h;omega
 have z1:∀w',Only (Dm S) W.heap.size W w'→w'.cell? ⟨w.heap.size,1,none⟩=some (.slice A1 np k1):=Only.fact (hx 1 _ rfl W (Below.refl _ _)) (by omega) hNf
 have z3:∀w',Only (Dm S) W.heap.size W w'→w'.cell? ⟨w.heap.size,3,none⟩=some (.slice A2 n k2):=Only.fact (hx 3 _ rfl W (Below.refl _ _)) (by omega) hNf
 have hkW:∀k,Dm S k→W.heap[k]? = w.heap[k]? := fun k hk=>hwW.block k (hSh.lt hk)
 have hShW:=hide (hSh.kept hkW)
 have hTyW:=hide (Ty.refl S W)
 have hP:=hide (hp.later ((Ty.refl S w).heap hkW))
 have hBl:=hide (hb.later ((Ty.refl S w).heap hkW))
 have hTw:=hide ((Ty.refl S w).heap hkW)
 have hself:=Only.refl (Dm S) W.heap.size W
 have hwWh:=hide hwW
 replace hWs:=hide hWs
 clear hx hSh hp hb hNf hkW hwW
 go_enter Tryz.func13,Tryz.ntmps13
 go_wp2
 go_loopw [11] (fun u wr=>∃i:Nat,u = .int .i64 i∧i≤np∧Hid (Sh S wr)∧Hid (Ty S W wr)∧Only (Dm S) W.heap.size W wr) (fun u _=>np - (intOf u).toNat)
 case atStart=>exact⟨0,rfl,Nat.zero_le _,hShW,hTyW,hself⟩
 case round =>
  clear hShW hTyW hself
  obtain⟨i,rfl,hi,hSh,hTy,hon⟩:=hrel
  by_cases hlt:i<np
  ·have hii : (i : Int) < (np : Int) := by omega
   obtain⟨_,_,_,he, -,g⟩:=hP.out.later hTy.out
   cases he
   obtain⟨gP,mP,rfl,hs,hm,c,hc⟩:=g (by omega)
   obtain⟨u0,r0, -⟩:=(hSh.out.cells hs hc).2 i (by omega)
   have f0:wr.frozen? ⟨gP,i,none⟩=false:=Ym hc
   have hSh2:=hide (hSh.out.set (j:=i) (v := .int .i64 (-9)) hc cellOk_int)
   have hTy2:=hide (hTy.out.setCell gP i (.int .i64 (-9)))
   have hon2:=hide (hon.setCell (p:=⟨gP,i,none⟩) (.inl ⟨mP,hs⟩) (.int .i64 (-9)))
   clear hs hm hc g hSh hTy
   go_wp2
   go_roundw
   case rel=>exact⟨i+1,by go_num,hlt,hide (hSh2.out.kept fun _ _=>rfl),hide (hTy2.out.heap fun _ _=>rfl),(by first|exact hon2.out|exact hon2.out.drew)⟩
   case measure=>simp [intOf];omega
  ·obtain rfl : i = np := by omega
   rename World=>Y0
   go_wp2
   go_loopw [22] (fun u wr=>∃i:Nat,u = .int .i64 i∧i≤n∧Hid (Sh S wr)∧Hid (Ty S W wr)∧Only (Dm S) W.heap.size W wr) (fun u _=>n - (intOf u).toNat)
   case atStart=>exact⟨0,rfl,Nat.zero_le _,hSh,hTy,hon⟩
   case round =>
    clear hSh hTy hon
    obtain⟨i,rfl,hi,hSh,hTy,hon⟩:=hrel
    by_cases hlt:i<n
    ·have hii : (i : Int) < (n : Int) := by omega
     obtain⟨_,_,_,he, -,g⟩:=hBl.out.later hTy.out
     cases he
     obtain⟨gB,mB,rfl,hsB,hmB,cB,hcB⟩:=g (by omega)
     obtain⟨uB,rB,hok⟩:=(hSh.out.cells hsB hcB).2 i (by omega)
     have hCo:=hok.1 rfl
     obtain⟨Ac,nc,Cc,rfl,hnc8, -⟩:=id hCo
     rename World=>Y
     have hgB:gB<Y.heap.size:=(Array.getElem?_eq_some_iff.1 hcB).1
     have yB:∀w',Only (fun k=>Dm S k∧k≠gB) Y.heap.size Y w'→w'.cell? ⟨gB,i,none⟩=some (.slice Ac nc Cc):=Only.fact rB hgB (fun h=>h.2 rfl)
     have yF:∀w',Only (fun k=>Dm S k∧k≠gB) Y.heap.size Y w'→w'.frozen? ⟨gB,i,none⟩=false:=Only.free (Ym hcB) hgB (fun h=>h.2 rfl)
     have hselfY:=Only.refl (fun k=>Dm S k∧k≠gB) Y.heap.size Y
     have honY:=hide hon
     have hTyY:=hide (Ty.refl S Y)
     have hYs:=hon.size
     refine hd3 hsB hcB hCo ?_;clear hsB hcB hCo;intro hsB hcB hCo
     clear hok hmB g rB
     go_wp2
     go_loopw [32] (fun u wr=>∃k:Nat,u = .int .i64 k∧k≤nc∧Hid (Sh S wr)∧Hid (Ty S Y wr)∧Only (fun k=>Dm S k∧k≠gB) Y.heap.size Y wr) (fun u _=>nc - (intOf u).toNat)
     case atStart=>exact⟨0,rfl,Nat.zero_le _,hSh,hTyY,hselfY⟩
     case round =>
      clear hSh hselfY hTyY hon
      obtain⟨k,rfl,hk,hSh,hTyk,honB⟩:=hrel
      have hon:Only (Dm S) W.heap.size W wr:=honY.out.trans ((honB.more fun _ _ h=>h.1).mono hYs)
      by_cases hlt2:k<nc
      ·have hki : (k : Int) < (nc : Int) := by omega
       obtain⟨_,_,_,he, -,g⟩:=hCo.out.later hTyk.out
       cases he
       obtain⟨gC,mC,rfl,hsC,hmC,cC,hcC⟩:=g (by omega)
       obtain⟨u0,u1,u2,u3,u4,Aa,na,Ca,At_,nt,Ct,r0,r1,r2,r3,r4,r5,r6,oA,oT⟩:=hSh.out.seven hsC hcC hlt2 hmC
       have hna8:na≤2000000:=by obtain⟨_,_,_,e,h, -⟩:=oA;cases e;exact h
       have hnt8:nt≤2000000:=by obtain⟨_,_,_,e,h, -⟩:=oT;cases e;exact h
       obtain⟨cB',hcB', -⟩:=hTyk.out gB mB hsB.out cB _ hcB.out
       have hBC:gB≠gC:=type_ne hcB' hcC (by decide)
       obtain⟨X,hX,hwX,hXs,hxc⟩:=Y6 wr #[.int .i64 u0, .int .i64 u1, .int .i64 u2, .int .i64 u3, .int .i64 u4, .slice Aa na Ca, .slice At_ nt Ct] 44
       have hNI:¬Dm S wr.heap.size:=fun h=>by have:=hSh.out.lt h;omega
       have hkX:∀k,Dm S k→X.heap[k]? = wr.heap[k]? := fun k hk=>hwX.block k (hSh.out.lt hk)
       have hShX:=hide (hSh.out.kept hkX)
       have hTyX:=hide (Ty.refl S X)
       have hTykX:=hide (hTyk.out.heap hkX)
       have tX:=(Ty.refl S wr).heap hkX
       replace oA:=hide (oA.later tX)
       replace oT:=hide (oT.later tX)
       have hcCX:=(hkX gC ⟨mC,hsC⟩).trans hcC
       have hgC:gC<X.heap.size:=(Array.getElem?_eq_some_iff.1 hcCX).1
       have x5:∀w',Only (fun k=>Dm S k∧k≠gB∧k≠gC) X.heap.size X w'→w'.cell? ⟨wr.heap.size,5,none⟩=some (.slice Aa na Ca):=Only.fact (hxc 5 _ rfl X (Below.refl _ _)) (by omega) fun h=>hNI h.1
       have x6:∀w',Only (fun k=>Dm S k∧k≠gB∧k≠gC) X.heap.size X w'→w'.cell? ⟨wr.heap.size,6,none⟩=some (.slice At_ nt Ct):=Only.fact (hxc 6 _ rfl X (Below.refl _ _)) (by omega) fun h=>hNI h.1
       have up:∀(j:Nat) u,wr.cell? ⟨gC,j,none⟩=some u→∀w',Only (fun k=>Dm S k∧k≠gB∧k≠gC) X.heap.size X w'→w'.cell? ⟨gC,j,none⟩=some u:=fun j u hu=>Only.fact ((hwX.cell (p:=⟨gC,j,none⟩) (Array.getElem?_eq_some_iff.1 hcC).1).trans hu) hgC fun h=>h.2.2 rfl
       have upF:∀(j:Nat),∀w',Only (fun k=>Dm S k∧k≠gB∧k≠gC) X.heap.size X w'→w'.frozen? ⟨gC,j,none⟩=false:=fun j=>Only.free (Ym hcCX) hgC fun h=>h.2.2 rfl
       have c0:=hide (up _ _ r0)
       have c1:=hide (up _ _ r1)
       have c2:=hide (up _ _ r2)
       have c3:=hide (up _ _ r3)
       have c4:=hide (up _ _ r4)
       have c5:=hide (up _ _ r5)
       have c6:=hide (up _ _ r6)
       have upFh:=hide upF
       have honX:=hide (hon.then_below (Nat.le_refl _) (hwX.mono (Nat.le_refl _)))
       have honBX:=hide (honB.then_below (Nat.le_refl _) (hwX.mono (Nat.le_refl _)))
       have hselfX:=Only.refl (fun k=>Dm S k∧k≠gB∧k≠gC) X.heap.size X
       have hXW:W.heap.size≤X.heap.size:=by have:=hon.size;omega
       have hXY:Y.heap.size≤X.heap.size:=by have:=honB.size;omega
       refine hd7 hBC hcC hcCX hsC hwX hXs hcB' ?_;clear hBC hcC hcCX hsC hwX hXs hcB';intro hBC hcC hcCX hsC hwX hXs hcB'
       clear hxc up upF tX hkX g hmC hNI
       go_upto_region 13 with(fail)
       try rw [hX]
       clear hX r0 r1 r2 r3 r4 r5 r6 hSh hTyk hon honB
       go_wp2
       go_loopw [47] (fun u wr=>∃j:Nat,u = .int .i64 j∧j≤na∧Hid (Sh S wr)∧Hid (Ty S X wr)∧Only (fun k=>Dm S k∧k≠gB∧k≠gC) X.heap.size X wr) (fun u _=>na - (intOf u).toNat)
       case atStart=>exact⟨0,rfl,Nat.zero_le _,hShX,hTyX,hselfX⟩
       case round =>
        clear hShX hTyX hselfX
        obtain⟨j,rfl,hj,hSh,hTyj,honI⟩:=hrel
        by_cases hlt3:j<na
        ·have hji : (j : Int) < (na : Int) := by omega
         obtain⟨_,_,_,he, -,g⟩:=oA.out.later hTyj.out
         cases he
         obtain⟨gA,mA,rfl,hsA,hmA,cA,hcA⟩:=g (by omega)
         obtain⟨v0,r0, -⟩:=(hSh.out.cells hsA hcA).2 (j*3) (by omega)
         obtain⟨v1,r1, -⟩:=(hSh.out.cells hsA hcA).2 (j*3+1) (by omega)
         obtain⟨v2,r2, -⟩:=(hSh.out.cells hsA hcA).2 (j*3+2) (by omega)
         have f0:wr.frozen? ⟨gA,j*3,none⟩=false:=Ym hcA
         have f1:wr.frozen? ⟨gA,j*3+1,none⟩=false:=Ym hcA
         have f2:wr.frozen? ⟨gA,j*3+2,none⟩=false:=Ym hcA
         obtain⟨cB1,hcB1, -⟩:=(hTykX.out.trans hTyj.out) gB mB hsB.out cB _ hcB.out
         obtain⟨cC1,hcC1, -⟩:=hTyj.out gC mC hsC.out cC _ hcCX.out
         have hQ:Dm S gA∧gA≠gB∧gA≠gC:=⟨⟨mA,hsA⟩,type_ne hcA hcB1 (by decide),type_ne hcA hcC1 (by decide)⟩
         have hSh2:=hide (hSh.out.put3 (o:=j*3) hcA (.int .i64 77) (.int .i64 j) (.int .u64 0))
         have hTy2:=hide (((hTyj.out.setCell gA (j*3) (.int .i64 77)).setCell gA (j*3+1) (.int .i64 j)).setCell gA (j*3+2) (.int .u64 0))
         have hon2:=hide (((honI.setCell (p:=⟨gA,j*3,none⟩) (.inl hQ) (.int .i64 77)).setCell (p:=⟨gA,j*3+1,none⟩) (.inl hQ) (.int .i64 j)).setCell (p:=⟨gA,j*3+2,none⟩) (.inl hQ) (.int .u64 0))
         clear hsA hmA hcA g hSh hTyj hcB1 hcC1 hQ
         go_wp2
         go_roundw
         case rel=>exact⟨j+1,by go_num,hlt3,hide (hSh2.out.kept fun _ _=>rfl),hide (hTy2.out.heap fun _ _=>rfl),(by first|exact hon2.out|exact hon2.out.drew)⟩
         case measure=>simp [intOf];omega
        ·obtain rfl : j = na := by omega
         rename World=>Y1
         go_wp2
         go_loopw [60] (fun u wr=>∃j:Nat,u = .int .i64 j∧j≤nt∧Hid (Sh S wr)∧Hid (Ty S X wr)∧Only (fun k=>Dm S k∧k≠gB∧k≠gC) X.heap.size X wr) (fun u _=>nt - (intOf u).toNat)
         case atStart=>exact⟨0,rfl,Nat.zero_le _,hSh,hTyj,honI⟩
         case round =>
          clear hSh hTyj honI
          obtain⟨j,rfl,hj,hSh,hTyj,honI⟩:=hrel
          by_cases hlt3:j<nt
          ·have hji : (j : Int) < (nt : Int) := by omega
           obtain⟨_,_,_,he, -,g⟩:=oT.out.later hTyj.out
           cases he
           obtain⟨gA,mA,rfl,hsA,hmA,cA,hcA⟩:=g (by omega)
           obtain⟨v0,r0, -⟩:=(hSh.out.cells hsA hcA).2 j (by omega)
           have f0:wr.frozen? ⟨gA,j,none⟩=false:=Ym hcA
           obtain⟨cB1,hcB1, -⟩:=(hTykX.out.trans hTyj.out) gB mB hsB.out cB _ hcB.out
           obtain⟨cC1,hcC1, -⟩:=hTyj.out gC mC hsC.out cC _ hcCX.out
           have hQ:Dm S gA∧gA≠gB∧gA≠gC:=⟨⟨mA,hsA⟩,type_ne hcA hcB1 (by decide),type_ne hcA hcC1 (by decide)⟩
           have hSh2:=hide (hSh.out.set (j:=j) (v := .int .i64 (-77)) hcA cellOk_int)
           have hTy2:=hide (hTyj.out.setCell gA j (.int .i64 (-77)))
           have hon2:=hide (honI.setCell (p:=⟨gA,j,none⟩) (.inl hQ) (.int .i64 (-77)))
           clear hsA hmA hcA g hSh hTyj hcB1 hcC1 hQ
           go_wp2
           go_roundw
           case rel=>exact⟨j+1,by go_num,hlt3,hide (hSh2.out.kept fun _ _=>rfl),hide (hTy2.out.heap fun _ _=>rfl),(by first|exact hon2.out|exact hon2.out.drew)⟩
           case measure=>simp [intOf];omega
          ·obtain rfl : j = nt := by omega
           have hon:Only (Dm S) W.heap.size W wr:=honX.out.trans ((honI.more fun _ _ h=>h.1).mono hXW)
           have honB:Only (fun k=>Dm S k∧k≠gB) Y.heap.size Y wr:=honBX.out.trans ((honI.more fun _ _ h=>⟨h.1,h.2.1⟩).mono hXY)
           have r0:=c0.out wr honI
           have r1:=c1.out wr honI
           have r2:=c2.out wr honI
           have r3:=c3.out wr honI
           have r4:=c4.out wr honI
           have r5:=c5.out wr honI
           have r6:=c6.out wr honI
           have f0:=upFh.out (k*7) wr honI
           have f1:=upFh.out (k*7+1) wr honI
           have f2:=upFh.out (k*7+2) wr honI
           have f3:=upFh.out (k*7+3) wr honI
           have f4:=upFh.out (k*7+4) wr honI
           have f5:=upFh.out (k*7+5) wr honI
           have f6:=upFh.out (k*7+6) wr honI
           obtain⟨cC1,hcC1, -⟩:=hTyj.out gC mC hsC.out cC _ hcCX.out
           have hSh2:=hide (hSh.out.put7 (k:=k) hcC1 (-7))
           have hTy2:=hide (((((((hTykX.out.trans hTyj.out).setCell gC (k*7) (.int .i64 (-7))).setCell gC (k*7+1) (.int .i64 0)).setCell gC (k*7+2) (.int .i64 0)).setCell gC (k*7+3) (.int .i64 0)).setCell gC (k*7+4) (.int .i64 0)).setCell gC (k*7+5) (.slice none 0 0) |>.setCell gC (k*7+6) (.slice none 0 0))
           have hQ:Dm S gC∧gC≠gB:=⟨⟨mC,hsC.out⟩,fun e=>hBC.out e.symm⟩
           have hon2:=hide (((((((honB.setCell (p:=⟨gC,k*7,none⟩) (.inl hQ) (.int .i64 (-7))).setCell (p:=⟨gC,k*7+1,none⟩) (.inl hQ) (.int .i64 0)).setCell (p:=⟨gC,k*7+2,none⟩) (.inl hQ) (.int .i64 0)).setCell (p:=⟨gC,k*7+3,none⟩) (.inl hQ) (.int .i64 0)).setCell (p:=⟨gC,k*7+4,none⟩) (.inl hQ) (.int .i64 0)).setCell (p:=⟨gC,k*7+5,none⟩) (.inl hQ) (.slice none 0 0)).setCell (p:=⟨gC,k*7+6,none⟩) (.inl hQ) (.slice none 0 0))
           clear hcC1 hQ hSh hTyj x5 x6
           go_wp2
           go_roundw
           case rel=>exact⟨k+1,by go_num,hlt2,hide (hSh2.out.kept fun _ _=>rfl),hide (hTy2.out.heap fun _ _=>rfl),(by first|exact hon2.out|exact hon2.out.drew)⟩
           case measure=>simp [intOf];omega
      ·obtain rfl : k = nc := by omega
       have r0:=yB wr honB
       have f0:=yF wr honB
       obtain⟨cB1,hcB1, -⟩:=hTyk.out gB mB hsB.out cB _ hcB.out
       have hSh2:=hide (hSh.out.set (j:=i) (v := .slice none 0 0) hcB1 (cellOk_block .none_))
       have hTy2:=hide ((hTy.out.trans hTyk.out).setCell gB i (.slice none 0 0))
       have hon2:=hide (hon.setCell (p:=⟨gB,i,none⟩) (.inl ⟨mB,hsB.out⟩) (.slice none 0 0))
       clear hcB1 hSh hTyk
       go_wp2
       go_roundw
       case rel=>exact⟨i+1,by go_num,hlt,hide (hSh2.out.kept fun _ _=>rfl),hide (hTy2.out.heap fun _ _=>rfl),(by first|exact hon2.out|exact hon2.out.drew)⟩
       case measure=>simp [intOf];omega
    ·obtain rfl : i = n := by omega
     go_wp2
     go_end0
     exact⟨rfl,(Only.of_below hwWh.out).trans (hon.mono hwWh.out.size),hSh.out,hTw.out.trans hTy.out⟩
structure Tr (lo hi : Nat) (w : World) (f : Fun) (c d : Value) : Prop where
 ex:∃w0:World,w0.heap.size=hi∧OwnI w0 lo c f.params∧OwnK w0 lo d f.blocks∧∀k,lo≤k→k<hi→w.heap[k]? = w0.heap[k]?
section
variable {lo hi:Nat} {w w':World} {f:Fun} {c d:Value}
theorem Tr.kept (h:Tr lo hi w f c d) (hk:∀k,lo≤k→k<hi→w'.heap[k]? = w.heap[k]?):Tr lo hi w' f c d:=by
 obtain⟨w0,h1,h2,h3,h4⟩:=h
 exact⟨w0,h1,h2,h3,fun k a b=>(hk k a b).trans (h4 k a b)⟩
theorem Tr.own (h:Tr lo hi w f c d):OwnI w lo c f.params∧OwnK w lo d f.blocks:=by
 obtain⟨w0,h1,h2,h3,h4⟩:=h
 subst h1
 exact⟨h2.kept h4,h3.kept h4⟩
theorem Tr.made (hc:OwnI w lo c f.params) (hd:OwnK w lo d f.blocks) (hh:w.heap.size=hi):Tr lo hi w f c d:=⟨w,hh,hc,hd,fun _ _ _=>rfl⟩
theorem Tr.form (h:Tr lo hi w f c d):∃A C A' C',c = .slice A f.params.length C∧d = .slice A' f.blocks.length C':=by
 obtain⟨h1,xs,h2,h3, -⟩:=h.own
 obtain⟨A,C,e1⟩:=Yd h1.row
 obtain⟨A',C',e2⟩:=Yd h3
 exact⟨A,C,A',C',e1,e2⟩
theorem Tr.rep (h:Tr lo hi w f c d) {u1 u2:Value} {B:Nat} {w1:World} {cs:List Value} {f1:Fun} (hf:RFun.rep w1 B cs f1) (h1:f.name=f1.name) (h2:f.ret=f1.ret):RFun.rep w w.heap.size [.string f.name,c, .int .i64 f.ret,d] f:=by
 obtain⟨_,_,_, -, -,hret,hnm⟩:=hf
 obtain⟨ha,hb⟩:=h.own
 refine⟨_,_,rfl,ha.rep,hb.rep,?_,?_⟩
 ·rw [h2];exact hret
 ·rw [h1];exact hnm
theorem Tr.spoil (h:Tr lo hi w f c d) (hs:Zo f):∃S,Sh S w∧SlOk S w 3 1 c∧SlOk S w 41 1 d∧∀k,Dm S k→lo≤k∧k<hi:=by
 obtain⟨w0,h1,h2,h3,h4⟩:=h
 subst h1
 have hk:∀k,Dm (FineS w0 lo) k→w.heap[k]? = w0.heap[k]? := fun k hk=>h4 k (fineS_le hk).1 (fineS_le hk).2
 have ht:Ty (FineS w0 lo) w0 w:=(Ty.refl _ w0).heap hk
 exact⟨FineS w0 lo,(fineS_sh w0 lo).kept hk,(h2.fine hs.params).int_.later ht,(h3.fine hs.blocks hs.code).blocks.later ht,fun k hk=>fineS_le hk⟩
theorem spoil_tree (h:Tr lo hi w f c d) (hs:Zo f):Calls Tryz.prog 13 #[f.v c d] w fun e w'=>e = .returned (.tuple #[])∧Only (fun k=>lo≤k∧k<hi) w.heap.size w w':=by
 obtain⟨S,h1,h2,h3,h4⟩:=h.spoil hs
 obtain⟨A,C,A',C',e1,e2⟩:=h.form
 subst e1;subst e2
 refine(spoil_any f.name f.ret _ _ _ _ _ _ S w h1 h2 h3).mono ?_
 rintro e w' ⟨rfl,ho, -⟩
 exact⟨rfl,ho.more fun k _ hk=>h4 k hk⟩
end
theorem Yaj.tr {f:Fun} {w w':World} {e:Ending} (h:Yaj f w e w'):∃c d,e = .returned (.tuple #[f.v c d, .bool (Yam f.blocks).isSome])∧Tr w.heap.size w'.heap.size w' (Ye f ((Yam f.blocks).getD f.blocks)) c d∧Below w.heap.size w w':=by
 obtain⟨T,N,c,d,h1,h2,h3, -,h5,h6⟩:=h
 obtain⟨g1,g2⟩:=h2.gives (w':=w') (b:=w.heap.size) h3 h5 (fun _ _=>rfl)
 exact⟨c,d,h1, .made g1 g2 rfl,h6⟩
theorem law_tidy_steps (m : Mod) (m1 m2 m3 : Value) (w : World) (ha : RMod.rep w w.heap.size [m1, m2, m3] m) (hsz : ∀ f, f ∈ m.funcs → Ybo f ≤ 1900000) :
  Calls Tryz.prog 3 #[m.v m1 m2 m3] w (RetB true w):=by
 obtain⟨M1,v1,j1,M2,v2,j2,M3,v3,j3,hmf⟩:=Ycc ha
 obtain⟨e1,e2,e3⟩:=hmf
 subst e1 e2 e3
 obtain⟨A5,k5,hM3,hl5,gf⟩:=funs_at (Yby (RMod.later ha (Below.refl _ _) (Nat.le_refl _))).2.2
 have hv3:v3=m.funcs.length:=by cases hM3;rfl
 have hM3':M3=A5∧j3=k5:=by cases hM3;exact⟨rfl,rfl⟩
 obtain⟨e1,e2⟩:=hM3'
 subst e1 e2
 clear hM3
 rw [←hv3] at hl5 gf
 refine hd2 gf hv3 ?_;clear gf hv3;intro gf hv3
 obtain⟨W,hW,hwW,hWs,hx⟩:=Y6 w #[.slice M1 v1 j1, .slice M2 v2 j2, .slice M3 v3 j3] 26
 have p0:∀w',Below W.heap.size W w'→w'.cell? ⟨w.heap.size,0,none⟩=some (.slice M1 v1 j1):=hx 0 _ rfl
 have p1:∀w',Below W.heap.size W w'→w'.cell? ⟨w.heap.size,1,none⟩=some (.slice M2 v2 j2):=hx 1 _ rfl
 have p2:∀w',Below W.heap.size W w'→w'.cell? ⟨w.heap.size,2,none⟩=some (.slice M3 v3 j3):=hx 2 _ rfl
 clear hx
 have hws:w.heap.size≤W.heap.size:=by omega
 replace hsz:=hide hsz
 have hself:=Below.refl W.heap.size W
 have hwX:Hid (∀w',Below W.heap.size W w'→Below w.heap.size w w'):=hide (fun w' h=>hwW.trans (h.mono hws))
 obtain⟨rb,hrb⟩:=Jn (rightB m)
 have cR:Hid (∀w',Below W.heap.size W w'→Calls Tryz.prog 8 #[m.v (.slice M1 v1 j1) (.slice M2 v2 j2) (.slice M3 v3 j3)] w' (RetB rb w')):=hide (fun w' h=>by
  rw [hrb.out]
  exact right_any m _ _ _ w' w'.heap.size (Nat.le_refl _) (RMod.later ha (hwX.out w' h) (hwX.out w' h).size) (fun f hf=>by have:=hsz.out f hf;omega))
 have cL:Hid (∀w',Below W.heap.size W w'→Calls Tryz.prog 7 #[m.v (.slice M1 v1 j1) (.slice M2 v2 j2) (.slice M3 v3 j3)] w' (SomeBit w')):=hide (fun w' h=>long16_any m _ _ _ w' (RMod.later ha (hwX.out w' h) (hwX.out w' h).size) (fun f hf=>by have:=hsz.out f hf;omega))
 refine hd4 ha hWs hW hwW ?_;clear ha hWs hW hwW;intro ha hWs hW hwW
 go_enter Tryz.func3,Tryz.ntmps3
 go_upto_region 1 with(fail)
 rw [hW.out]
 clear hW
 go_wp2_with (fail)
 refine(lives17_any _).mono ?_
 rintro e w1 ⟨rfl,hb1⟩
 have hk1:=hself.trans (hb1.mono hself.size)
 clear hb1 hself
 go_wp2_with (fail)
 refine(cL.out _ hk1).mono ?_
 rintro e w2 ⟨lb,rfl,hb2⟩
 have hk2:=hk1.trans (hb2.mono hk1.size)
 clear hb2 cL hk1
 cases lb with
 | true =>
  have hfin:=hide (hwX.out _ hk2)
  go_wp2
  go_ret
  exact⟨rfl,hfin.out⟩
 | false =>
 go_wp2_with (fail)
 refine(cR.out _ hk2).mono ?_
 rintro e w3 ⟨rfl,hb3⟩
 have hk3:=hk2.trans (hb3.mono hk2.size)
 clear hb3 cR hk2
 cases rb with
 | false =>
  have hfin:=hide (hwX.out _ hk3)
  go_wp2
  go_ret
  exact⟨rfl,hfin.out⟩
 | true =>
  have hright:Hid (∀f,f∈m.funcs→Qs m f):=hide (fun f hf=>right_fun17 hrb.out.symm hf)
  go_wp2
  go_loopw [24] (fun s wr=>∃i:Nat,s = .int .i64 i∧i≤v3∧Below W.heap.size W wr) (fun s _=>v3 - (intOf s).toNat)
  case atStart=>exact⟨0,rfl,Nat.zero_le _,hk3⟩
  case round =>
   clear hk3
   rename World=>V
   obtain⟨i,rfl,hi,hbel⟩:=hrel
   have hVs:=hbel.size
   by_cases hlt:i<v3
   ·have hii : (i : Int) < (v3 : Int) := by omega
    obtain⟨f,hf⟩:=Yf (l:=m.funcs) (k:=i) (by rw [←hv3.out];exact hlt)
    obtain⟨b1,o1,hA1,he⟩:=gf.out (by omega)
    subst hA1
    obtain⟨cp,ep,hra,hc⟩:=he i f hf.out
    obtain⟨hrp,hrb'⟩:=Yk hra
    obtain⟨A1,k1,h1,hnp, -⟩:=Rp.slice1_open hrp
    obtain⟨A2,k2,h2,hmb, -⟩:=Rp.slice1_open hrb'
    cases h1;cases h2
    have hfz:=hide (hsz.out f (Jm hf.out))
    have hsm:Hid (Zo f):=hide (Ybu (by have:=hfz.out;omega))
    have hti:=hide (fun_tinv (hright.out f (Jm hf.out)) hsm.out)
    obtain⟨np,hnpe⟩:=Jn (f.params.length)
    obtain⟨n,hn⟩:=Jn (f.blocks.length)
    have hmzf:Hid (mz f.blocks+2≤2000000):=hide (by
     obtain⟨⟨⟨h1,h2,h3⟩, -⟩, -⟩:=hright.out f (Jm hf.out)
     have:=mz_flat f.blocks
     omega)
    have hn2:n≤2000000:=by rw [hn.out];exact hsm.out.blocks
    rw [←hnpe.out,←hn.out] at hra hc
    rw [←hnpe.out] at hnp
    rw [←hn.out] at hmb
    obtain⟨s0,s1,s2,s3⟩:=hc.four
    have s0:=s0 V (hwX.out V hbel)
    have s1:=s1 V (hwX.out V hbel)
    have s2:=s2 V (hwX.out V hbel)
    have s3:=s3 V (hwX.out V hbel)
    obtain⟨Z,hZ,hwZ,hZs,hzc⟩:=Y6 V #[.string f.name, .slice A1 np k1, .int .i64 f.ret, .slice A2 n k2] 32
    have t0:∀w',Below Z.heap.size Z w'→w'.cell? ⟨V.heap.size,0,none⟩=some (.string f.name):=hzc 0 _ rfl
    have t1:∀w',Below Z.heap.size Z w'→w'.cell? ⟨V.heap.size,1,none⟩=some (.slice A1 np k1):=hzc 1 _ rfl
    have t2:∀w',Below Z.heap.size Z w'→w'.cell? ⟨V.heap.size,2,none⟩=some (.int .i64 f.ret):=hzc 2 _ rfl
    have t3:∀w',Below Z.heap.size Z w'→w'.cell? ⟨V.heap.size,3,none⟩=some (.slice A2 n k2):=hzc 3 _ rfl
    have T0:=hide t0
    have T1:=hide t1
    have T2:=hide t2
    have T3:=hide t3
    have hbZ:Below W.heap.size W Z:=hbel.trans (hwZ.mono hVs)
    have hZW:Hid (∀w',Below Z.heap.size Z w'→Below W.heap.size W w'):=hide (fun w' h=>hbZ.trans (h.mono hbZ.size))
    have hZw:Hid (∀w',Below Z.heap.size Z w'→Below w.heap.size w w'):=hide (fun w' h=>hwX.out w' (hZW.out w' h))
    have hF:Hid (∀w',Below Z.heap.size Z w'→RFun.rep w' w'.heap.size [.string f.name, .slice A1 np k1, .int .i64 f.ret, .slice A2 n k2] f):=hide (fun w' h=>RFun.later hra (hZw.out w' h) (hZw.out w' h).size)
    have hselfZ:=Below.refl Z.heap.size Z
    obtain⟨R,hR⟩:=Jn (Ye f ((Yam f.blocks).getD f.blocks))
    have hRn:Hid (R.name=f.name∧R.ret=f.ret∧R.params=f.params):=hide (by rw [hR.out];exact⟨rfl,rfl,rfl⟩)
    have hki:=hide (fun_kinv (hright.out f (Jm hf.out)) hsm.out)
    obtain⟨ok,hok⟩:=Jn ((Yam f.blocks).isSome)
    have hRs:Hid (Zo R):=hide (by
     rw [hR.out]
     cases hE:Yam f.blocks with
     | none=>exact hsm.out
     | some bs'=>exact(KInv.inv hsm.out.params).small _ ((KInv.inv hsm.out.params).step _ _ hki.out hE).1)
    have cSt:Hid (∀c d w',RFun.rep w' w'.heap.size [.string f.name,c, .int .i64 f.ret,d] f→Calls Tryz.prog 10 #[f.v c d] w' fun e w''=>∃c' d',e = .returned (.tuple #[f.v c' d', .bool ok])∧Tr w'.heap.size w''.heap.size w'' R c' d'∧Below w'.heap.size w' w''):=hide (fun c d w' h=>by
     rw [hok.out,hR.out]
     exact(tstep_any f c d w' w'.heap.size (Nat.le_refl _) h hsm.out ((TInv.inv (f:=f) hsm.out.params).wf _ hti.out) ((TInv.inv (f:=f) hsm.out.params).fr _ hti.out)).mono fun e w'' hp=>hp.tr)
    have cFn:Hid (∀(g:Fun) c d c' d' w',RFun.rep w' w'.heap.size [.string g.name,c, .int .i64 g.ret,d] g→RFun.rep w' w'.heap.size [.string g.name,c', .int .i64 g.ret,d'] g→Calls Tryz.prog 12 #[.agg #[.string g.name,c, .int .i64 g.ret,d], .agg #[.string g.name,c', .int .i64 g.ret,d']] w' (RetB true w')):=hide (fun g c d c' d' w' h h'=>by
     have h9:=funcs_any g g c d c' d' w' w'.heap.size (Nat.le_refl _) h h'
     rwa [decide_eq_true (rfl:g=g)] at h9)
    have hfr:=hide (hF.out Z hselfZ)
    have hrepT:Hid (∀lo hi w' c d,Tr lo hi w' R c d→RFun.rep w' w'.heap.size [.string R.name,c, .int .i64 R.ret,d] R):=hide (fun lo hi w' c d h=>h.rep (u1 := .bool true) (u2 := .bool true) hfr.out hRn.out.1 hRn.out.2.1)
    have hrepM:Hid (∀lo hi w' c d,Tr lo hi w' f c d→RFun.rep w' w'.heap.size [.string f.name,c, .int .i64 f.ret,d] f):=hide (fun lo hi w' c d h=>h.rep (u1 := .bool true) (u2 := .bool true) hfr.out rfl rfl)
    have cC:Hid (Calls Tryz.prog 9 #[f.v (.slice A1 np k1) (.slice A2 n k2)] Z (CopyTree f Z)):=hide (Qp f _ _ Z Z.heap.size (Nat.le_refl _) (hF.out Z hselfZ) hsm.out)
    have cW:Hid (∀w',Below Z.heap.size Z w'→Calls Tryz.prog 11 #[f.v (.slice A1 np k1) (.slice A2 n k2)] w' fun e w''=>∃c' d',e = .returned (.tuple #[f.v c' d', .bool ok])∧Below w'.heap.size w' w''∧∀w3,(∀k,w'.heap.size≤k→k<w''.heap.size→w3.heap[k]? = w''.heap[k]?)→Below Z.heap.size Z w3→RFun.rep w3 w3.heap.size [.string R.name,c', .int .i64 R.ret,d'] R):=hide (fun w' h=>by
     have h1:=rstep17_any f (KInv.pre (f:=f) hsm.out.params hki.out) (.slice A1 np k1) (.slice A2 n k2) w' w'.heap.size (Nat.le_refl _) (hF.out w' h)
     rw [step17_eq hki.out.t hki.out.k hki.out.n] at h1
     refine h1.mono fun e w'' hp => ?_
     rw [hok.out]
     unfold MayPost at hp
     cases hE:Yam f.blocks with
     | none =>
      rw [hE] at hp
      have hRf:R=f:=by rw [hR.out,hE];rfl
      exact⟨_,_,hp.2,hp.1,fun w3 _ h3=>by rw [hRf];exact hF.out w3 h3⟩
     | some bs' =>
      rw [hE] at hp
      obtain⟨h2,c',d',h3,h4,h5⟩:=hp
      have hRf:R=Ye f bs':=by rw [hR.out,hE];rfl
      refine⟨c',d',h3,h2,fun w3 hk3 h6 => ?_⟩
      have hT:Tr w'.heap.size w''.heap.size w'' R c' d':=by rw [hRf];exact .made h4 h5 rfl
      exact hrepT.out _ _ _ _ _ (hT.kept hk3))
    refine hd6 hra hrp hrb' hwZ hZs hZ ?_;clear hra hrp hrb' hwZ hZs hZ;intro hra hrp hrb' hwZ hZs hZ
    clear he hc hzc
    go_upto_region 8 with(fail)
    rw [hZ.out]
    clear hZ s0 s1 s2 s3
    have t0Z:=t0 Z hselfZ
    have t1Z:=t1 Z hselfZ
    have t2Z:=t2 Z hselfZ
    have t3Z:=t3 Z hselfZ
    go_wp2_with (fail)
    refine cC.out.mono ?_
    rintro e U ⟨c,d,L,rfl,hcI,hcL,hdK,hZL,hbU⟩
    have hTm:Tr Z.heap.size U.heap.size U f c d:=by
     obtain⟨xs9,ess9,h9⟩:=hdK
     exact .made hcI (h9.own.mono hZL) rfl
    obtain⟨Am,nm,Cm,Dm,mm,Em,e1,e2⟩:∃A n C A' n' C',c=Value.slice A n C∧d=Value.slice A' n' C':=by
     obtain⟨A,C,A',C',e1,e2⟩:=hTm.form
     exact⟨A,_,C,A',_,C',e1,e2⟩
    subst e1 e2
    have hUs:=hbU.size
    obtain⟨Y,hY,hwY,hYs,hxc⟩:=Y6 U #[.string f.name, .slice Am nm Cm, .int .i64 f.ret, .slice Dm mm Em] 32
    obtain⟨N5,hN5⟩:=Jn (U.heap.size)
    have hx5:Y.heap[N5]? = some (.cells #[.string f.name, .slice Am nm Cm, .int .i64 f.ret, .slice Dm mm Em] 32 (0,0)):=by rw [←hY,hN5.out];exact heap_alloc_new U _
    refine hd2 hY hYs ?_;clear hY hYs;intro hY hYs
    clear hxc
    have hb0:Below Z.heap.size Z Y:=hbU.trans (hwY.mono hUs)
    have hTm0:=hTm.kept (w':=Y) fun k _ hk=>hwY.block k hk
    have hY0:U.heap.size<Y.heap.size:=by rw [←hN5.out];exact(Array.getElem?_eq_some_iff.1 hx5).1
    have cS1:=hide (cSt.out _ _ Y (hrepM.out _ _ _ _ _ hTm0))
    refine hd4 hTm hcI hcL hdK ?_;clear hTm hcI hcL hdK;intro hTm hcI hcL hdK
    clear t0Z t1Z t2Z t3Z cC
    go_upto_region 9 with(fail)
    rw [hY.out,←hN5.out]
    obtain⟨b50,b51,b52,b53⟩:=bx4 hx5
    go_wp2_with (fail)
    refine cS1.out.mono ?_
    rintro e U1 ⟨cg,dg,rfl,hTg,hbU1⟩
    obtain⟨Ag,ng,Cg,Dg,mg,Eg,e1,e2⟩:∃A n C A' n' C',cg=Value.slice A n C∧dg=Value.slice A' n' C':=by
     obtain⟨A,C,A',C',e1,e2⟩:=hTg.form
     exact⟨A,_,C,A',_,C',e1,e2⟩
    subst e1 e2
    have hU1s:=hbU1.size
    obtain⟨Y1,hY1,hwY1,hY1s,hxc⟩:=Y6 U1 #[.string f.name, .slice Ag ng Cg, .int .i64 f.ret, .slice Dg mg Eg] 32
    obtain⟨N6,hN6⟩:=Jn (U1.heap.size)
    have hx6:Y1.heap[N6]? = some (.cells #[.string f.name, .slice Ag ng Cg, .int .i64 f.ret, .slice Dg mg Eg] 32 (0,0)):=by rw [←hY1,hN6.out];exact heap_alloc_new U1 _
    refine hd2 hY1 hY1s ?_;clear hY1 hY1s;intro hY1 hY1s
    clear hxc
    have hb01:Below Y.heap.size Y Y1:=hbU1.trans (hwY1.mono hU1s)
    have hTm1:=hTm0.kept (w':=Y1) fun k _ hk=>hb01.block k (by omega)
    have hTg1:=hTg.kept (w':=Y1) fun k _ hk=>hwY1.block k hk
    have hY10:U1.heap.size<Y1.heap.size:=by rw [←hN6.out];exact(Array.getElem?_eq_some_iff.1 hx6).1
    have hx51:=(hb01.block N5 (by have:=hN5.out;omega)).trans hx5
    have cS2:=hide (cSt.out _ _ Y1 (hrepM.out _ _ _ _ _ hTm1))
    clear cS1 b50 b51 b52 b53
    go_upto_region 10 with(fail)
    rw [hY1.out,←hN6.out]
    obtain⟨b50,b51,b52,b53⟩:=bx4 hx51
    go_wp2_with (fail)
    refine cS2.out.mono ?_
    rintro e U2 ⟨ch,dh,rfl,hTh,hbU2⟩
    obtain⟨Ah,nh,Ch,Dh,mh,Eh,e1,e2⟩:∃A n C A' n' C',ch=Value.slice A n C∧dh=Value.slice A' n' C':=by
     obtain⟨A,C,A',C',e1,e2⟩:=hTh.form
     exact⟨A,_,C,A',_,C',e1,e2⟩
    subst e1 e2
    have hU2s:=hbU2.size
    obtain⟨Y2,hY2,hwY2,hY2s,hxc⟩:=Y6 U2 #[.string f.name, .slice Ah nh Ch, .int .i64 f.ret, .slice Dh mh Eh] 32
    obtain⟨N8,hN8⟩:=Jn (U2.heap.size)
    have hx8:Y2.heap[N8]? = some (.cells #[.string f.name, .slice Ah nh Ch, .int .i64 f.ret, .slice Dh mh Eh] 32 (0,0)):=by rw [←hY2,hN8.out];exact heap_alloc_new U2 _
    refine hd2 hY2 hY2s ?_;clear hY2 hY2s;intro hY2 hY2s
    clear hxc
    have hb12:Below Y1.heap.size Y1 Y2:=hbU2.trans (hwY2.mono hU2s)
    have hTm2:=hTm1.kept (w':=Y2) fun k _ hk=>hb12.block k (by omega)
    have hTg2:=hTg1.kept (w':=Y2) fun k _ hk=>hb12.block k (by omega)
    have hTh2:=hTh.kept (w':=Y2) fun k _ hk=>hwY2.block k hk
    have hY20:U2.heap.size<Y2.heap.size:=by rw [←hN8.out];exact(Array.getElem?_eq_some_iff.1 hx8).1
    have hx52:=(hb12.block N5 (by have:=hN5.out;omega)).trans hx51
    have hx62:=(hb12.block N6 (by have:=hN6.out;omega)).trans hx6
    have hbZ2:Below Z.heap.size Z Y2:=hb0.trans ((hb01.mono (by omega)).trans (hb12.mono (by omega)))
    have cW2:=hide (cW.out Y2 hbZ2)
    clear cS2 b50 b51 b52 b53
    go_upto_region 11 with(fail)
    rw [hY2.out,←hN8.out]
    have t0Z:=t0 Y2 hbZ2
    have t1Z:=t1 Y2 hbZ2
    have t2Z:=t2 Y2 hbZ2
    have t3Z:=t3 Y2 hbZ2
    go_wp2_with (fail)
    refine cW2.out.mono ?_
    rintro e U3 ⟨cw,dw,rfl,hbU3,hWr⟩
    obtain⟨Aw,nw,Cw,Dw,mw,Ew,e1,e2⟩:∃A n C A' n' C',cw=Value.slice A n C∧dw=Value.slice A' n' C':=by
     have h9:=hWr U3 (fun _ _ _=>rfl) (hbZ2.trans (hbU3.mono hbZ2.size))
     obtain⟨hq1,hq2⟩:=Yk h9
     obtain⟨A9,k9,h1, -, -⟩:=Rp.slice1_open hq1
     obtain⟨A8,k8,h2, -, -⟩:=Rp.slice1_open hq2
     exact⟨_,_,_,_,_,_,by simpa using h1,by simpa using h2⟩
    subst e1 e2
    have hU3s:=hbU3.size
    obtain⟨Y3,hY3,hwY3,hY3s,hxc⟩:=Y6 U3 #[.string f.name, .slice Aw nw Cw, .int .i64 f.ret, .slice Dw mw Ew] 32
    obtain⟨N10,hN10⟩:=Jn (U3.heap.size)
    have hx10:Y3.heap[N10]? = some (.cells #[.string f.name, .slice Aw nw Cw, .int .i64 f.ret, .slice Dw mw Ew] 32 (0,0)):=by rw [←hY3,hN10.out];exact heap_alloc_new U3 _
    refine hd2 hY3 hY3s ?_;clear hY3 hY3s;intro hY3 hY3s
    clear hxc
    have hb23:Below Y2.heap.size Y2 Y3:=hbU3.trans (hwY3.mono hU3s)
    have hbZ3:Below Z.heap.size Z Y3:=hbZ2.trans (hb23.mono hbZ2.size)
    have hTm3:=hTm2.kept (w':=Y3) fun k _ hk=>hb23.block k (by omega)
    have hTg3:=hTg2.kept (w':=Y3) fun k _ hk=>hb23.block k (by omega)
    have hTh3:=hTh2.kept (w':=Y3) fun k _ hk=>hb23.block k (by omega)
    have hx53:=(hb23.block N5 (by have:=hN5.out;omega)).trans hx52
    have hx63:=(hb23.block N6 (by have:=hN6.out;omega)).trans hx62
    have hx83:=(hb23.block N8 (by have:=hN8.out;omega)).trans hx8
    have hWr3:=hWr Y3 (fun k _ hk=>hwY3.block k hk) hbZ3
    have hY30:U3.heap.size<Y3.heap.size:=by rw [←hN10.out];exact(Array.getElem?_eq_some_iff.1 hx10).1
    have cF1:Hid (Calls Tryz.prog 12 #[f.v (.slice Ag ng Cg) (.slice Dg mg Eg),f.v (.slice Aw nw Cw) (.slice Dw mw Ew)] Y3 (RetB true Y3)):=hide (by
     have h9:=cFn.out R _ _ _ _ Y3 (hrepT.out _ _ _ _ _ hTg3) hWr3
     rw [hRn.out.1,hRn.out.2.1] at h9
     exact h9)
    clear cW2 t0Z t1Z t2Z t3Z
    go_upto_region 12 with(fail)
    rw [hY3.out,←hN10.out]
    obtain⟨b60,b61,b62,b63⟩:=bx4 hx63
    obtain⟨b100,b101,b102,b103⟩:=bx4 hx10
    have qok:(ok != ok)=false:=by cases ok<;>rfl
    go_wp2_with (fail)
    refine cF1.out.mono ?_
    rintro e Y4 ⟨rfl,hb34⟩
    have hbZ4:Below Z.heap.size Z Y4:=hbZ3.trans (hb34.mono hbZ3.size)
    have hY4s:=hb34.size
    have hTm4:=hTm3.kept (w':=Y4) fun k _ hk=>hb34.block k (by omega)
    have hx54:=(hb34.block N5 (by have:=hN5.out;omega)).trans hx53
    have cF2:Hid (Calls Tryz.prog 12 #[f.v (.slice Am nm Cm) (.slice Dm mm Em),f.v (.slice A1 np k1) (.slice A2 n k2)] Y4 (RetB true Y4)):=hide (cFn.out f _ _ _ _ Y4 (hrepM.out _ _ _ _ _ hTm4) (hF.out Y4 hbZ4))
    have t0Z:=t0 Y4 hbZ4
    have t1Z:=t1 Y4 hbZ4
    have t2Z:=t2 Y4 hbZ4
    have t3Z:=t3 Y4 hbZ4
    obtain⟨b50,b51,b52,b53⟩:=bx4 hx54
    clear cF1 b60 b61 b62 b63 b100 b101 b102 b103
    go_wp2_with (fail)
    refine cF2.out.mono ?_
    rintro e Y5 ⟨rfl,hb45⟩
    have hb35:Below Y3.heap.size Y3 Y5:=hb34.trans (hb45.mono hY4s)
    have hY5s:=hb35.size
    have hbZ5:Below Z.heap.size Z Y5:=hbZ3.trans (hb35.mono hbZ3.size)
    have hTm5:=hTm3.kept (w':=Y5) fun k _ hk=>hb35.block k (by omega)
    have hTg5:=hTg3.kept (w':=Y5) fun k _ hk=>hb35.block k (by omega)
    have hTh5:=hTh3.kept (w':=Y5) fun k _ hk=>hb35.block k (by omega)
    have hx55:=(hb35.block N5 (by have:=hN5.out;omega)).trans hx53
    have hx65:=(hb35.block N6 (by have:=hN6.out;omega)).trans hx63
    have hx85:=(hb35.block N8 (by have:=hN8.out;omega)).trans hx83
    have hx105:=(hb35.block N10 (by have:=hN10.out;omega)).trans hx10
    have cP1:Hid (Calls Tryz.prog 13 #[f.v (.slice Ag ng Cg) (.slice Dg mg Eg)] Y5 fun e w'=>e = .returned (.tuple #[])∧Only (fun k=>Y.heap.size≤k∧k<U1.heap.size) Y5.heap.size Y5 w'):=hide (by
     have h9:=spoil_tree hTg5 hRs.out
     have e9:R.v (.slice Ag ng Cg) (.slice Dg mg Eg)=f.v (.slice Ag ng Cg) (.slice Dg mg Eg):=by unfold Fun.v;rw [hRn.out.1,hRn.out.2.1]
     rw [e9] at h9
     exact h9)
    clear cF2 t0Z t1Z t2Z t3Z b50 b51 b52 b53
    obtain⟨b60,b61,b62,b63⟩:=bx4 hx65
    go_wp2_with (fail)
    refine cP1.out.mono ?_
    rintro e X1 ⟨rfl,ho1⟩
    have ho1s:=ho1.size
    have hTmX:=hTm5.kept (w':=X1) fun k _ hk=>ho1.block k (by omega) (fun h=>by omega)
    have hThX:=hTh5.kept (w':=X1) fun k h1 hk=>ho1.block k (by omega) (fun h=>by omega)
    have hx5X:=(ho1.block N5 (by have:=hN5.out;omega) (fun h=>by have:=hN5.out;omega)).trans hx55
    have hx8X:=(ho1.block N8 (by have:=hN8.out;omega) (fun h=>by have:=hN8.out;omega)).trans hx85
    have hx10X:=(ho1.block N10 (by have:=hN10.out;omega) (fun h=>by have:=hN10.out;omega)).trans hx105
    have cP2:Hid (Calls Tryz.prog 13 #[f.v (.slice Am nm Cm) (.slice Dm mm Em)] X1 fun e w'=>e = .returned (.tuple #[])∧Only (fun k=>Z.heap.size≤k∧k<U.heap.size) X1.heap.size X1 w'):=hide (spoil_tree hTmX hsm.out)
    clear cP1 b60 b61 b62 b63
    obtain⟨b50,b51,b52,b53⟩:=bx4 hx5X
    go_wp2_with (fail)
    refine cP2.out.mono ?_
    rintro e X2 ⟨rfl,ho2⟩
    have ho2s:=ho2.size
    have hThX2:=hThX.kept (w':=X2) fun k h1 hk=>ho2.block k (by omega) (fun h=>by omega)
    have hx8X2:=(ho2.block N8 (by have:=hN8.out;omega) (fun h=>by have:=hN8.out;omega)).trans hx8X
    have hx10X2:=(ho2.block N10 (by have:=hN10.out;omega) (fun h=>by have:=hN10.out;omega)).trans hx10X
    have hbZX1:Below Z.heap.size Z X1:=hbZ5.trans (ho1.to_below (B':=Z.heap.size) (fun k hk=>by have:=hk.1;omega) (by omega))
    have hbZX2:Below Z.heap.size Z X2:=hbZX1.trans (ho2.to_below (B':=Z.heap.size) (fun k hk=>by have:=hk.1;omega) (by omega))
    have hWrX:=hWr X2 (fun k h1 hk=>by
     rw [ho2.block k (by omega) (fun h=>by omega),ho1.block k (by omega) (fun h=>by omega),hb35.block k (by omega)]
     exact hwY3.block k hk) hbZX2
    have cF3:Hid (Calls Tryz.prog 12 #[f.v (.slice Ah nh Ch) (.slice Dh mh Eh),f.v (.slice Aw nw Cw) (.slice Dw mw Ew)] X2 (RetB true X2)):=hide (by
     have h9:=cFn.out R _ _ _ _ X2 (hrepT.out _ _ _ _ _ hThX2) hWrX
     rw [hRn.out.1,hRn.out.2.1] at h9
     exact h9)
    clear cP2 b50 b51 b52 b53
    obtain⟨b80,b81,b82,b83⟩:=bx4 hx8X2
    obtain⟨b100,b101,b102,b103⟩:=bx4 hx10X2
    go_wp2_with (fail)
    refine cF3.out.mono ?_
    rintro e X3 ⟨rfl,hbX3⟩
    have hfin9:=hZW.out _ (hbZX2.trans (hbX3.mono hbZX2.size))
    go_wp2
    go_roundw
    case rel=>exact⟨i+1,by go_num,hlt,hfin9⟩
    case measure=>simp [intOf];omega
   ·have hfin : Hid (Below w.heap.size w V) := hide (hwX.out V hbel)
    go_wp2
    go_ret
    exact⟨rfl,hfin.out⟩
end Go.Proofs.YtamjcafjdioidaaGreat
