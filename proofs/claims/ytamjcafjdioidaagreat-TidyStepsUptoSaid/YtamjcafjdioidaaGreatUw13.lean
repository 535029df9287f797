/- Texts of the chain, without what is not wanted: TdF, TdS, TdL. No condition but sizes. -/
import Derived.Test.YtamjcafjdioidaaGreatUw12
set_option linter.unusedVariables false
set_option linter.unusedSimpArgs false
set_option maxRecDepth 100000
set_option maxHeartbeats 12800000
namespace Go.Proofs.YtamjcafjdioidaaGreat
open Go.RowKit
theorem tunseens_any {w : World} {T : Nat → Prop} {N : Nat} {f : Fun} {c d : Value} {Cp : Nat → Prop} (hCp : ∀ k, c.ownBlock = some k → Cp k) (h : MF w T N f c d) (hs : Zo f) (hwf : Wf f.blocks) :
  Calls Tryz.prog 27 #[.pointer (some ⟨N,0,none⟩)] w (Y7 w T N f Cp (Yal (Yw f.blocks) f.blocks)):=by
 replace hCp:=hide hCp
 obtain⟨R,hR⟩:=Jn (Yw f.blocks)
 obtain⟨n,hn⟩:=Jn (f.blocks.length)
 have hnb:n≤2000000:=by rw [hn.out];exact hs.blocks
 have hRl:Hid (R.length=n):=hide (by rw [hR.out,hn.out,Qj])
 obtain⟨res,hres⟩:=Jn (Yal R f.blocks)
 rw [←hR.out,←hres.out]
 obtain⟨xs0,ess0,hk0,hT0⟩:=h.tree
 obtain⟨Ad,Cd,hdf⟩:=Yd hk0.row
 subst hdf
 obtain⟨Ac,Cc,hcf⟩:=Yd h.par.row
 subst hcf
 have hNlt:=h.lt
 have hbox:=h.box
 obtain⟨b0,b1,b2,b3⟩:=bx4 hbox
 obtain⟨np,hnp⟩:=Jn (f.params.length)
 have cR:Hid (Calls Tryz.prog 54 #[f.v (.slice Ac np Cc) (.slice Ad n Cd)] w (Yay n R w)):=hide (by
  have:=reach_any f _ _ w w.heap.size (Nat.le_refl _) h.rep hs
  rw [←hn.out,←hR.out,←hnp.out] at this
  exact this)
 have hcut:=h.cut
 have hTT:Hid (∀k,T k∧k<w.heap.size→T k):=hide (fun k hk=>hk.1)
 rw [←hnp.out] at b1
 rw [←hn.out] at b3
 rw [←hnp.out,←hn.out] at hcut
 obtain⟨i0,hi0,hz0,hz1,hz2⟩:=Yh Ybh
 refine hd4 hi0 hz0 hz1 hz2 ?_;clear hi0 hz0 hz1 hz2;intro hi0 hz0 hz1 hz2
 have hself:=Below.refl w.heap.size w
 refine hd7 h hcut hk0 hT0 hbox hwf hs ?_;clear h hcut hk0 hT0 hbox hwf hs;intro h hcut hk0 hT0 hbox hwf hs
 go_enter Tryz.func27,Tryz.ntmps27
 go_wp2_with (fail)
 refine cR.out.mono ?_
 rintro e w1 ⟨gr,rfl,hrr,hb1⟩
 obtain⟨-,hrd⟩:=Yas hrr
 have hgrl:gr<w1.heap.size:=(Ya hrr rfl).2.1
 have hgrw:w.heap.size≤gr:=(Ya hrr rfl).1
 refine hd2 hrr hrd ?_;clear hrr hrd;intro hrr hrd
 have hw1s:=hb1.size
 clear cR hself b0 b1 b2 b3
 go_wp2_with (at_make;refine wpList_make_full _ rfl (.tmp 16) (.tmp 16) _ rfl w1.heap.size 4 i0 _ 1 Tryz.underlying55 hi0.out hz0.out hz1.out .i64 .i64 n n n rfl rfl rfl rfl ?c1 ?c2 (Nat.le_refl _) ?_)
 case c1=>rw [hz2.out];omega
 case c2=>unfold maxLen;omega
 intro w2 hown2 hg2
 have hb2:=Zr hg2
 obtain⟨G,hG⟩:=Jn (w1.heap.size)
 rw [←hG.out]
 have hrow0:Hid (w2.ownsRow w1.heap.size 4 1 (.slice (some ⟨G,0,none⟩) n n) n ((goneL R 0).map Value.bool)):=hide (by
  rw [hG.out,goneL_zero,hRl.out]
  exact Ybf hown2)
 have hGw2:G<w2.heap.size:=(Ya hrow0.out rfl).2.1
 have hany0:Hid (false=(R.take 0).any fun r => !r):=hide (by simp)
 refine hd2 hown2 hg2 ?_;clear hown2 hg2;intro hown2 hg2
 go_wp2
 go_loopw [5,20] (fun s5 s wr=>∃(i:Nat) (sm:Bool),s5 = .bool sm∧s = .int .i64 i∧i≤n∧Hid (sm=(R.take i).any fun r => !r)∧Hid (wr.ownsRow w1.heap.size 4 1 (.slice (some ⟨G,0,none⟩) n n) n ((goneL R i).map Value.bool))∧Below w1.heap.size w1 wr) (fun _ s _=>n - (intOf s).toNat)
 case atStart=>exact⟨0,false,rfl,rfl,Nat.zero_le _,hany0,hrow0,hb2⟩
 case round =>
  clear hrow0 hb2
  rename World=>V
  obtain⟨i,sm,rfl,rfl,hi,hany,hrowV,hbV⟩:=hrel
  have hVs:=hbV.size
  by_cases hlt:i<n
  ·have hii : (i : Int) < (n : Int) := by omega
   obtain⟨r,hr⟩:=Yf (l:=R) (k:=i) (by rw [hRl.out];exact hlt)
   have rr:=hrd.out i r hr.out V hbV
   have hgb:∃u,(goneL R i)[i]? = some u:=⟨_,Jg (by rw [goneL_len (by rw [hRl.out];exact hi),hRl.out];exact hlt)⟩
   obtain⟨u,hu⟩:=hgb
   have r1:=OwnB.cell hrowV.out hu hlt
   have r2:=Zj hrowV.out i
   have hrow2:=hide (by have h9:=(World.ownsRow.stored hrowV.out i (.bool (!r))).1;rwa [←List.map_set,goneL_next hr.out] at h9)
   have hGw:w1.heap.size≤G:=by have:=hG.out;omega
   have hbV2:Below w1.heap.size w1 (V.setCell ⟨G,i,none⟩ (.bool (!r))):=hbV.setCell hGw _
   have hany2:=hide (any_next hr.out)
   replace hr:=hide hr
   clear hu
   cases r with
   | true =>
    have hany3:Hid (sm=(R.take (i+1)).any fun r => !r):=hide (by rw [hany2.out,←hany.out];simp)
    cases sm with
    | true =>
     go_wp2
     go_roundw
     case rel=>exact⟨i+1,_,rfl,by go_num,hlt,hany3,hrow2,hbV2⟩
     case measure=>simp [intOf];omega
    | false =>
     go_wp2
     go_roundw
     case rel=>exact⟨i+1,_,rfl,by go_num,hlt,hany3,hrow2,hbV2⟩
     case measure=>simp [intOf];omega
   | false =>
    have hany3:Hid (true=(R.take (i+1)).any fun r => !r):=hide (by rw [hany2.out,←hany.out];simp)
    cases sm with
    | true =>
     go_wp2
     go_roundw
     case rel=>exact⟨i+1,_,rfl,by go_num,hlt,hany3,hrow2,hbV2⟩
     case measure=>simp [intOf];omega
    | false =>
     go_wp2
     go_roundw
     case rel=>exact⟨i+1,_,rfl,by go_num,hlt,hany3,hrow2,hbV2⟩
     case measure=>simp [intOf];omega
  ·obtain rfl : n = i := by omega
   have hRa:Hid (sm=R.any fun r => !r):=hide (by rw [hany.out,List.take_of_length_le (by rw [hRl.out];exact Nat.le_refl _)])
   have hwV:Below w.heap.size w V:=hb1.trans (hbV.mono hw1s)
   cases sm with
   | false =>
    have hfin:Hid (Y7 w T N f Cp res (.returned (.bool false)) V):=hide (Y7.none_ (by
     rw [hres.out]
     unfold Yal
     rw [←hRa.out]
     rfl) h.out hwV hCp.out)
    go_wp2
    go_ret
    exact hfin.out
   | true =>
    obtain⟨gone,hgone⟩:=Jn (R.map fun r => !r)
    have hrow3:Hid (V.ownsRow w1.heap.size 4 1 (.slice (some ⟨G,0,none⟩) n n) n (gone.map Value.bool)):=hide (by
     have h9:=hrowV.out
     rwa [←hRl.out,goneL_end,←hgone.out,hRl.out] at h9)
    have hgl:Hid (gone.length=n):=hide (by rw [hgone.out,List.length_map,hRl.out])
    have hfound:Hid (res=some (Yn gone (loseAll gone n f.blocks n))):=hide (by
     rw [hres.out]
     unfold Yal
     rw [←hRa.out,if_pos rfl,←hgone.out,←hn.out])
    have hGlt:G<V.heap.size:=(Ya hrow3.out rfl).2.1
    have hGT:¬(T G∧G<w.heap.size):=fun h9=>by have:=hG.out;omega
    have hGN:G≠N:=by have:=hG.out;omega
    have hgo:Hid (∀k g,gone[k]? = some g→∀w',Only (fun k=>T k∧k<w.heap.size) V.heap.size V w'→w'.cell? ⟨G,k,none⟩=some (.bool g)):=hide (fun k g hg=>Yx (OwnB.cell hrow3.out hg (by have:=(Js.1 hg).1;have:=hgl.out;omega)) hGlt hGT)
    have hm0:Hid (MF V (fun k=>T k∧k<w.heap.size) N (Ye f (loseAll gone n f.blocks 0)) (.slice Ac np Cc) (.slice Ad n Cd)):=hide (hcut.out.below hwV)
    have hon0:Only (fun k=>T k∧k<w.heap.size) V.heap.size V V:=Only.refl _ _ _
    obtain⟨V1,hV1⟩:=Jn (V)
    rw [←hV1.out] at hwV hrow3 hGlt hgo hm0 hon0⊢
    clear hrowV
    go_wp2
    go_loopw [40] (fun s wr=>∃b:Nat,s = .int .i64 b∧b≤n∧Hid (MF wr (fun k=>T k∧k<w.heap.size) N (Ye f (loseAll gone n f.blocks b)) (.slice Ac np Cc) (.slice Ad n Cd))∧Only (fun k=>T k∧k<w.heap.size) V1.heap.size V1 wr) (fun s _=>n - (intOf s).toNat)
    case atStart=>exact⟨0,rfl,Nat.zero_le _,hm0,hon0⟩
    case round =>
     clear hm0 hon0
     rename World=>V2
     obtain⟨b,rfl,hb,hmb,hon⟩:=hrel
     have hV2s:=hon.size
     by_cases hltb:b<n
     ·have hbi : (b : Int) < (n : Int) := by omega
      obtain⟨gb,hgb⟩:=Yf (l:=gone) (k:=b) (by rw [hgl.out];exact hltb)
      have hm1:Hid (MF V2 (fun k=>T k∧k<w.heap.size) N (Ye f (Qr gone b (loseAll gone n f.blocks b) 0)) (.slice Ac np Cc) (.slice Ad n Cd)):=hmb
      have hgbo:=hgo.out b gb hgb.out
      go_wp2
      go_loopw [45] (fun s wr=>∃p:Nat,s = .int .i64 p∧p≤n∧Hid (MF wr (fun k=>T k∧k<w.heap.size) N (Ye f (Qr gone b (loseAll gone n f.blocks b) p)) (.slice Ac np Cc) (.slice Ad n Cd))∧Only (fun k=>T k∧k<w.heap.size) V1.heap.size V1 wr) (fun s _=>n - (intOf s).toNat)
      case atStart=>exact⟨0,rfl,Nat.zero_le _,hm1,hon⟩
      case round =>
       clear hm1 hmb hon
       rename World=>V3
       obtain⟨p,rfl,hp,hmp,hon3⟩:=hrel
       have hV3s:=hon3.size
       by_cases hltp:p<n
       ·have hpi : (p : Int) < (n : Int) := by omega
        obtain⟨gp,hgp⟩:=Yf (l:=gone) (k:=p) (by rw [hgl.out];exact hltp)
        have c1:=hgbo V3 hon3
        have c2:=hgo.out p gp hgp.out V3 hon3
        have hgd1:Hid (gone.getD p false=gp):=hide (by rw [Jq,hgp.out];rfl)
        have hgd2:Hid (gone.getD b false=gb):=hide (by rw [Jq,hgb.out];rfl)
        have hnx:=hide (Q6 gone b (loseAll gone n f.blocks b) p)
        cases gp with
        | false =>
         have hm2:Hid (MF V3 (fun k=>T k∧k<w.heap.size) N (Ye f (Qr gone b (loseAll gone n f.blocks b) (p+1))) (.slice Ac np Cc) (.slice Ad n Cd)):=hide (by
          rw [hnx.out]
          unfold loseIf
          rw [hgd1.out]
          exact hmp.out)
         go_wp2
         go_roundw
         case rel=>exact⟨p+1,by go_num,hltp,hm2,hon3⟩
         case measure=>simp [intOf];omega
        | true =>
         cases gb with
         | true =>
          have hm2:Hid (MF V3 (fun k=>T k∧k<w.heap.size) N (Ye f (Qr gone b (loseAll gone n f.blocks b) (p+1))) (.slice Ac np Cc) (.slice Ad n Cd)):=hide (by
           rw [hnx.out]
           unfold loseIf
           rw [hgd1.out,hgd2.out]
           exact hmp.out)
          go_wp2
          go_roundw
          case rel=>exact⟨p+1,by go_num,hltp,hm2,hon3⟩
          case measure=>simp [intOf];omega
         | false =>
          have cL:Hid (Calls Tryz.prog 57 #[.pointer (some ⟨N,0,none⟩), .int .i64 b, .int .i64 p] V3 fun e w'=>e = .returned (.tuple #[])∧Hid (MF w' (fun k=>T k∧k<w.heap.size) N (Ye f (Qr gone b (loseAll gone n f.blocks b) (p+1))) (.slice Ac np Cc) (.slice Ad n Cd))∧Only (fun k=>T k∧k<w.heap.size) V1.heap.size V1 w'):=hide (by
           have hw1:=loseAll_wf (gone:=gone) (n:=n) hwf.out b
           have hw2:=loseRow_wf (gone:=gone) hw1.1 b p
           have hlb:(Qr gone b (loseAll gone n f.blocks b) p)[b]? = some ((Qr gone b (loseAll gone n f.blocks b) p).getD b []):=Zt (by rw [hw2.2,hw1.2,←hn.out];exact hltb)
           refine(lose_any hmp.out b p hlb (hw2.1 _ (Jm hlb)).phi).mono ?_
           rintro e w' ⟨rfl,h1,h2⟩
           refine⟨rfl,hide ?_,hon3.next (Nat.le_refl _) h2⟩
           rw [hnx.out]
           unfold loseIf loseB
           rw [hgd1.out,hgd2.out]
           exact h1)
          go_wp2_with (fail)
          refine cL.out.mono ?_
          rintro e w4 ⟨rfl,hm4,hon4⟩
          go_wp2
          go_roundw
          case rel=>exact⟨p+1,by go_num,hltp,hm4,hon4⟩
          case measure=>simp [intOf];omega
       ·obtain rfl : n = p := by omega
        have hm2:Hid (MF V3 (fun k=>T k∧k<w.heap.size) N (Ye f (loseAll gone n f.blocks (b+1))) (.slice Ac np Cc) (.slice Ad n Cd)):=hide (by
         rw [Yar]
         exact hmp.out)
        go_wp2
        go_roundw
        case rel=>exact⟨b+1,by go_num,hltb,hm2,hon3⟩
        case measure=>simp [intOf];omega
     ·obtain rfl : n = b := by omega
      have hwfA:=hide (loseAll_wf (gone:=gone) (n:=n) hwf.out n)
      have cW:Hid (Calls Tryz.prog 60 #[.pointer (some ⟨N,0,none⟩), .slice (some ⟨G,0,none⟩) n n] V2 fun e w'=>e = .returned (.tuple #[])∧Y7 w T N f Cp res (.returned (.bool true)) w'):=hide (by
       have hlen:(Ye f (loseAll gone n f.blocks n)).blocks.length=n:=by show(loseAll gone n f.blocks n).length=n;rw [hwfA.out.2,←hn.out]
       have hrow4:V2.ownsRow 0 4 1 (.slice (some ⟨G,0,none⟩) n n) n (gone.map Value.bool):=Zf (Yc hrow3.out fun k hk=>hon.block k (Ya hrow3.out hk).2.1 (by cases hk;exact hGT)) (Nat.zero_le _)
       have h9:=twithout_any hmb.out (by rw [hlen];exact hnb) (fun l hl=>(hwfA.out.1 l hl).to_) (gone:=gone) (G:=G) (by rw [hlen];exact hgl.out) (by rw [hlen];exact hrow4) hGT hGN
       rw [hlen] at h9
       refine h9.mono ?_
       rintro e w' ⟨rfl,d',h1,h2⟩
       refine⟨rfl,?_⟩
       rw [hfound.out]
       have hwV2:w.heap.size≤V1.heap.size:=hwV.size
       refine⟨_,_,d',fun k hk => ?_,⟨rfl,h1⟩,?_,fun k hk => .inl (hCp.out k (by cases Ac<;>exact hk))⟩
       ·rcases hk with hk | hk
        ·exact .inl hk.1
        ·right;omega
       ·refine(Only.of_below hwV).trans (((hon.mono hwV2).more fun k _ hk=>Or.inr hk.1).trans ((h2.mono (by omega)).more fun k _ hk=>hk.imp_right fun h8=>h8.1)))
      go_wp2_with (fail)
      refine cW.out.mono ?_
      rintro e w9 ⟨rfl,hfin⟩
      replace hfin:=hide hfin
      go_wp2
      go_ret
      exact hfin.out
def Ybs (x:Ins):Opd:=⟨1,x.reg,0⟩
def Zh (self:Opd) (s:Opd×Bool) (a:Opd):Opd×Bool:=if a=self then s else if s.1=self then(a,s.2) else if a≠s.1 then(s.1,false) else s
def Ybt (x:Ins) (k:Nat):Opd×Bool:=(x.args.take k).foldl (Zh (Ybs x)) (Ybs x,true)
def Ya2 (x:Ins):Option Opd:=if (Ybt x x.args.length).2=true∧(Ybt x x.args.length).1≠Ybs x then some (Ybt x x.args.length).1 else none
theorem loneF_next {x:Ins} {k:Nat} {a:Opd} (h:x.args[k]? = some a):Ybt x (k+1)=Zh (Ybs x) (Ybt x k) a:=by
 unfold Ybt
 rw [List.take_add_one,h,List.foldl_append]
 rfl
def Q7 (l:List Ins):Option Nat:=(List.range (l.takeWhile Ybb).length).find? fun i=>((l[i]?).bind Ya2).isSome
def sgB (R:List Bool) (bs:List (List Ins)) (b:Nat):Bool:=R.getD b false&&(Q7 (bs.getD b [])).isSome
def Yai (bs:List (List Ins)) (b i:Nat) (x:Ins) (v:Opd):List (List Ins):=Yaq (rsub x.reg v) (bs.set b ((bs.getD b []).eraseIdx i))
def Qw (R:List Bool) (bs:List (List Ins)):Option (List (List Ins)):=((List.range bs.length).find? (sgB R bs)).bind fun b=>(Q7 (bs.getD b [])).bind fun i=>((bs.getD b [])[i]?).bind fun x=>(Ya2 x).map fun v=>Yai bs b i x v
theorem front_len {l:List Ins} {i:Nat} (h:∀(j:Nat) y,j<i→l[j]? = some y→y.op=25) (hs:i=l.length∨∃y,l[i]? = some y∧y.op≠25):(l.takeWhile Ybb).length=i:=by
 have h1:=mixP_stop (p:=0) h hs
 have key:∀(l:List Ins) (i:Nat),(∀(j:Nat) y,j<i→l[j]? = some y→y.op=25)→(i=l.length∨∃y,l[i]? = some y∧y.op≠25)→(l.takeWhile Ybb).length=i:=by
  intro l
  induction l with
  | nil=>intro i _ hs;rcases hs with h|⟨y,h,_⟩;simpa using h.symm;simp at h
  | cons y l ih =>
   intro i h hs
   cases i with
   | zero =>
    have hy:Ybb y=false:=by
     rcases hs with h1|⟨z,h1,h2⟩
     ·simp at h1
     ·cases h1;unfold Ybb;rw [beq_eq_false_iff_ne];exact h2
    rw [List.takeWhile_cons,hy];rfl
   | succ i =>
    have hy:Ybb y=true:=by unfold Ybb;rw [beq_iff_eq];exact h 0 y (by omega) rfl
    rw [List.takeWhile_cons,hy]
    simp only [if_true,List.length_cons]
    rw [ih i (fun j z hj hz=>h (j+1) z (by omega) (by simpa using hz)) (by
     rcases hs with h1|⟨z,h1,h2⟩
     ·left;simpa using h1
     ·right;exact⟨z,by simpa using h1,h2⟩)]
 exact key l i h hs
theorem front_ge {l:List Ins} {i:Nat} (h:∀(j:Nat) y,j≤i→l[j]? = some y→y.op=25) (hi:i<l.length):i<(l.takeWhile Ybb).length:=by
 induction l generalizing i with
 | nil=>simp at hi
 | cons y l ih =>
  have hy:Ybb y=true:=by unfold Ybb;rw [beq_iff_eq];exact h 0 y (by omega) rfl
  rw [List.takeWhile_cons,hy]
  simp only [if_true,List.length_cons]
  cases i with
  | zero=>omega
  | succ i =>
   have:=ih (i:=i) (fun j z hj hz=>h (j+1) z (by omega) (by simpa using hz)) (by simpa using hi)
   omega
theorem lone_found {l:List Ins} {i:Nat} {x:Ins} {v:Opd} (hx:l[i]? = some x) (hph:∀(j:Nat) y,j≤i→l[j]? = some y→y.op=25) (hv:Ya2 x=some v) (hno:∀(j:Nat) y,j<i→l[j]? = some y→Ya2 y=none):Q7 l=some i:=by
 unfold Q7
 have hi:=(Js.1 hx).1
 refine Qk (front_ge hph hi) (by rw [hx];simp [hv]) fun j hj => ?_
 rw [Jg (by omega)]
 simp [hno j _ hj (Jg (by omega))]
theorem lone_no {l:List Ins} {i:Nat} (hph:∀(j:Nat) y,j<i→l[j]? = some y→y.op=25) (hs:i=l.length∨∃y,l[i]? = some y∧y.op≠25) (hno:∀(j:Nat) y,j<i→l[j]? = some y→Ya2 y=none):Q7 l=none:=by
 unfold Q7
 rw [front_len hph hs]
 refine Zd fun j hj => ?_
 cases h:l[j]? with
 | none=>rfl
 | some y=>simp [hno j y hj h]
theorem cells_erase : ∀ {l : List Ins} {es : List (Value × Value)} {i : Nat}, es.length = l.length → i < l.length → cellsOf (l.eraseIdx i) (es.eraseIdx i) = (cellsOf l es).take (i * 7) ++ (cellsOf l es).drop ((i + 1) * 7)
 | x :: l,e :: es,0,h,_=>by
  have h0:cellsOf (x :: l) (e :: es)=insC x e.1 e.2++cellsOf l es:=by simp [cellsOf]
  have h7:(insC x e.1 e.2).length=7:=rfl
  rw [List.eraseIdx_cons_zero,List.eraseIdx_cons_zero,h0,Nat.zero_mul,List.take_zero,List.nil_append,show(0+1)*7=7 from rfl,List.drop_left' h7]
 | x :: l,e :: es,i+1,h,hi=>by
  have h0:cellsOf (x :: l) (e :: es)=insC x e.1 e.2++cellsOf l es:=by simp [cellsOf]
  have h1:cellsOf (x :: l.eraseIdx i) (e :: es.eraseIdx i)=insC x e.1 e.2++cellsOf (l.eraseIdx i) (es.eraseIdx i):=by simp [cellsOf]
  have h7:(insC x e.1 e.2).length=7:=rfl
  have h4:(i+1)*7=7+i*7:=by omega
  have h5:(i+1+1)*7=7+(i+1)*7:=by omega
  rw [List.eraseIdx_cons_succ,List.eraseIdx_cons_succ,h1,h0,cells_erase (by simpa using h) (by simpa using hi),h5,h4,←h7,List.take_length_add_append,List.drop_length_add_append,List.append_assoc]
theorem cells_one : ∀ (l : List Ins) (es : List (Value × Value)), (∀ e, e ∈ es → e.1.oneCell' = true ∧ e.2.oneCell' = true) → ∀ u, u ∈ cellsOf l es → u.oneCell' = true
 | [],es,_,u,h=>by simp [cellsOf] at h
 | x :: l, [],_,u,h=>by simp [cellsOf] at h
 | x :: l,e :: es,he,u,h=>by
  have h0:cellsOf (x :: l) (e :: es)=insC x e.1 e.2++cellsOf l es:=by simp [cellsOf]
  rw [h0] at h
  rcases List.mem_append.1 h with h1|h1
  ·have h2 := he e (List.mem_cons_self ..)
   unfold insC at h1
   simp only [List.mem_cons,List.not_mem_nil,or_false] at h1
   rcases h1 with rfl|rfl|rfl|rfl|rfl|rfl|rfl
   ·rfl
   ·rfl
   ·rfl
   ·rfl
   ·rfl
   ·exact h2.1
   ·exact h2.2
  ·exact cells_one l es (fun e' he'=>he e' (List.mem_cons_of_mem _ he')) u h1
theorem nd_erase {vs:List Value} (h:Nd vs) (i:Nat):Nd (vs.eraseIdx i):=by
 unfold Nd at h⊢
 exact h.sublist ((List.eraseIdx_sublist vs i).filterMap _)
theorem map_erase {α β:Type} (f:α→β) (l:List α) (i:Nat):(l.eraseIdx i).map f=(l.map f).eraseIdx i:=by
 rw [List.eraseIdx_eq_take_drop_succ,List.eraseIdx_eq_take_drop_succ,List.map_append,List.map_take,List.map_drop]
theorem MF.del_ins {w0 w : World} {T : Nat → Prop} {N : Nat} {f : Fun} {c : Value} {xs : List Value} {ess : List (List (Value × Value))} {gd n C b i gc m Cx : Nat} {l : List Ins} {es : List (Value × Value)} {Z : List Value} (hf : MF w0 T N f c (.slice (some ⟨gd, 0, none⟩) n C)) (hk : Yq w0 0 (.slice (some ⟨gd, 0, none⟩) n C) f.blocks xs ess) (hT : ∀ k, TB (.slice (some ⟨gd, 0, none⟩) n C) xs ess k → T k)
  (hn:n=f.blocks.length) (hm:m=l.length) (hb:f.blocks[b]? = some l) (hx:xs[b]? = some (.slice (some ⟨gc,0,none⟩) m Cx)) (he:ess[b]? = some es) (hi:i<m) (hw:Only (fun k=>k=gc) w0.heap.size w0 w)
  (hr:w.ownsRow 0 44 7 (.slice (some ⟨gc,0,none⟩) m Cx) m ((cellsOf l es).take (i*7)++(cellsOf l es).drop ((i+1)*7)++Z)) :
  MF (w.setCell ⟨gd,b,none⟩ (.slice (some ⟨gc,0,none⟩) (m - 1) Cx)) T N (Ye f (f.blocks.set b (l.eraseIdx i))) c (.slice (some ⟨gd,0,none⟩) n C)∧Only T w0.heap.size w0 (w.setCell ⟨gd,b,none⟩ (.slice (some ⟨gc,0,none⟩) (m - 1) Cx)):=by
 have hcd:=hk.inn b _ l es hx hb he
 have hlen:=hcd.len
 have tyC:=(Ya hcd.row rfl).2.2
 have tyD:=(Ya hk.row rfl).2.2
 have hgTd:T gd:=hT gd (.inl rfl)
 have hgTc:T gc:=hT gc (.inr (.inl ⟨_,Jm hx,rfl⟩))
 have hne:gc≠gd:=Z7 tyC tyD (by decide)
 have hon:Only T w0.heap.size w0 (w.setCell ⟨gd,b,none⟩ (.slice (some ⟨gc,0,none⟩) (m - 1) Cx)):=(hw.more fun k _ h9=>by subst h9;exact hgTc).setCell (p:=⟨gd,b,none⟩) (.inl hgTd) _
 have hset:∀k,k≠gd→(w.setCell ⟨gd,b,none⟩ (.slice (some ⟨gc,0,none⟩) (m - 1) Cx)).heap[k]? = w.heap[k]? := fun k h9=>Below.heap_setCell w ⟨gd,b,none⟩ _ k h9
 have hil:i<l.length:=by omega
 have hel:(l.eraseIdx i).length=m - 1:=by rw [List.length_eraseIdx,if_pos hil,hm]
 have hee:(es.eraseIdx i).length=(l.eraseIdx i).length:=by rw [hel,List.length_eraseIdx,if_pos (by omega)];omega
 have hcode:Z9 (w.setCell ⟨gd,b,none⟩ (.slice (some ⟨gc,0,none⟩) (m - 1) Cx)) 0 (.slice (some ⟨gc,0,none⟩) (m - 1) Cx) (l.eraseIdx i) (es.eraseIdx i):=by
  refine⟨hee,?_,fun j x e hxj hej => ?_,?_,?_⟩
  ·rw [hel, cells_erase hlen hil]
   refine Yb8 (Yc hr fun k hk => ?_) ?_ (by omega)
   ·cases hk
    exact hset gc hne
   ·have h1 := hr.1
    have h2:=Ya7 hlen
    rw [←cells_erase hlen hil,Ya7 hee,hel]
  ·have hj:∃j':Nat,l[j']? = some x∧es[j']? = some e:=by
    rw [List.getElem?_eraseIdx] at hxj hej
    split at hxj
    ·rename_i h9
     rw [if_pos h9] at hej
     exact⟨j,hxj,hej⟩
    ·rename_i h9
     rw [if_neg h9] at hej
     exact⟨j+1,hxj,hej⟩
   obtain⟨j',h1,h2⟩:=hj
   obtain⟨g1,g2,g3⟩:=hcd.inn j' x e h1 h2
   have key:∀k,k<w0.heap.size→k≠gc→k≠gd→(w.setCell ⟨gd,b,none⟩ (.slice (some ⟨gc,0,none⟩) (m - 1) Cx)).heap[k]? = w0.heap[k]? := fun k h3 h4 h5=>(hset k h5).trans (hw.block k h3 h4)
   exact⟨⟨Yc g1.row fun k hk=>key k (Ya g1.row hk).2.1 (Z7 (Ya g1.row hk).2.2 tyC (by decide)) (Z7 (Ya g1.row hk).2.2 tyD (by decide)),g1.ok⟩,⟨Yc g2.row fun k hk=>key k (Ya g2.row hk).2.1 (Z7 (Ya g2.row hk).2.2 tyC (by decide)) (Z7 (Ya g2.row hk).2.2 tyD (by decide)),g2.ok⟩,g3⟩
  ·rw [map_erase];exact nd_erase hcd.nda i
  ·rw [map_erase];exact nd_erase hcd.ndt i
 have hd:(w.setCell ⟨gd,b,none⟩ (.slice (some ⟨gc,0,none⟩) (m - 1) Cx)).ownsRow 0 41 1 (.slice (some ⟨gd,0,none⟩) n C) f.blocks.length (xs.set b (.slice (some ⟨gc,0,none⟩) (m - 1) Cx)):=by
  have h1:w.ownsRow 0 41 1 (.slice (some ⟨gd,0,none⟩) n C) n xs:=by
   rw [hn]
   rw [hn] at hk
   exact Yc hk.row fun k hk'=>hw.block k (Ya hk.row hk').2.1 (by cases hk';exact Ne.symm hne)
  have h2:=(World.ownsRow.stored h1 b (.slice (some ⟨gc,0,none⟩) (m - 1) Cx)).1
  rw [←hn]
  exact h2
 have hput:=hk.put (w':=w.setCell ⟨gd,b,none⟩ (.slice (some ⟨gc,0,none⟩) (m - 1) Cx)) hb hx he hcode (fun k h1 h2 h3 _=>(hset k (fun e=>h3 (by rw [e];rfl))).trans (hw.block k h1 (fun e=>h2 (by rw [e];rfl)))) hd (fun k hk'=>by cases hk';exact .inl rfl) (fun e k hee'=>⟨fun h9 => .inl ⟨e,List.mem_of_mem_eraseIdx hee',h9⟩,fun h9 => .inl ⟨e,List.mem_of_mem_eraseIdx hee',h9⟩⟩)
 refine⟨hf.with_ hon hput fun k hk' => ?_,hon⟩
 rcases hk' with h1|⟨x,hx',h1⟩|⟨a,z,ha,hz,h1⟩
 ·exact hT k (.inl h1)
 ·rcases List.mem_or_eq_of_mem_set hx' with h2 | h2
  ·exact hT k (.inr (.inl ⟨x,h2,h1⟩))
  ·subst h2
   cases h1
   exact hgTc
 ·rcases List.mem_or_eq_of_mem_set ha with h2 | h2
  ·exact hT k (.inr (.inr ⟨a,z,h2,hz,h1⟩))
  ·subst h2
   exact hT k (.inr (.inr ⟨es,z,Jm he,List.mem_of_mem_eraseIdx hz,h1⟩))
theorem setCell_heap2 {w w':World} {p:Addr} {v:Value} {k:Nat} (h:w.heap[k]? = w'.heap[k]?):(w.setCell p v).heap[k]? = (w'.setCell p v).heap[k]? := by
 simp only [World.setCell,Array.getElem?_modify,h]
def Vt (gd b:Nat) (w:World):World:=w.setCell ⟨gd,b,none⟩ (.slice none 0 0)
theorem Yb5 {gd b k:Nat} {w:World} (h:k≠gd):(Vt gd b w).heap[k]? = w.heap[k]? := Below.heap_setCell w ⟨gd,b,none⟩ (.slice none 0 0) k h
theorem Vt_size {gd b:Nat} {w:World}:(Vt gd b w).heap.size=w.heap.size:=by unfold Vt;simp
theorem Vt_same {gd b k:Nat} {w w':World} (h:w'.heap[k]? = w.heap[k]?):(Vt gd b w').heap[k]? = (Vt gd b w).heap[k]? := setCell_heap2 h
theorem Vt_cell {gd b k j:Nat} {w:World} (h:k≠gd):(Vt gd b w).cell? ⟨k,j,none⟩=w.cell? ⟨k,j,none⟩:=World.cell?_of_block (w:=w) (Yb5 h)
theorem Vt_at {gd b j:Nat} {w:World} (h:j≠b):(Vt gd b w).cell? ⟨gd,j,none⟩=w.cell? ⟨gd,j,none⟩:=World.cell?_setCell_other w ⟨gd,b,none⟩ ⟨gd,j,none⟩ _ (by intro e;injection e with e1 e2;exact h e2.symm)
theorem movI_scalars (p q:Int) (x:Ins):(movI p q x).op=x.op∧(movI p q x).reg=x.reg∧(movI p q x).ty=x.ty∧(movI p q x).num=x.num∧(movI p q x).flags=x.flags:=by
 unfold movI
 split<;>exact⟨rfl,rfl,rfl,rfl,rfl⟩
theorem movI_ok {p q:Int} {x:Ins} (h:Ybr x):Ybr (movI p q x):=by
 obtain⟨e1,e2,e3,e4,e5⟩:=movI_scalars p q x
 unfold Ybr at h⊢
 rw [e1,e2,e3,e4,e5]
 exact h
theorem cells_56 {l : List Ins} {es : List (Value × Value)} {i : Nat} {x x' : Ins} {ca ct c t : Value} (hl : l[i]? = some x) (he : es[i]? = some (ca, ct)) (hlen : es.length = l.length) (hs : x'.op = x.op ∧ x'.reg = x.reg ∧ x'.ty = x.ty ∧ x'.num = x.num ∧ x'.flags = x.flags) :
  ((cellsOf l es).set (i*7+5) c).set (i*7+6) t=cellsOf (l.set i x') (es.set i (c,t)):=by
 have hi:=(Js.1 hl).1
 obtain⟨e1,e2,e3,e4,e5⟩:=hs
 have a5:=Q9 (j:=5) (x':=x) (e':=(c,ct)) (u:=c) hl he hlen (by omega) rfl
 have a6:=Q9 (i:=i) (j:=6) (l:=l.set i x) (es:=es.set i (c,ct)) (x:=x) (e:=(c,ct)) (x':=x') (e':=(c,t)) (u:=t) (by rw [Jf hi]) (by rw [Jf (by omega)]) (by simp [hlen]) (by omega) (by unfold insC;rw [e1,e2,e3,e4,e5];rfl)
 rw [a5,a6,List.set_set,List.set_set]
theorem Yb3 {l1 l2:List Ins} {e1 e2:List (Value×Value)} (h:e1.length=l1.length):cellsOf (l1++l2) (e1++e2)=cellsOf l1 e1++cellsOf l2 e2:=by
 unfold cellsOf
 rw [List.zipWith_append h.symm,List.flatten_append]
theorem Qn : ∀ {l : List Ins} {es : List (Value × Value)}, es.length = l.length → (cellsOf l es).length = l.length * 7
 | [],es,_=>by simp [cellsOf]
 | x :: l, [],h=>by simp at h
 | x :: l,e :: es,h=>by
  have h0:cellsOf (x :: l) (e :: es)=insC x e.1 e.2++cellsOf l es:=by simp [cellsOf]
  have h7:(insC x e.1 e.2).length=7:=rfl
  rw [h0,List.length_append,h7,Qn (by simpa using h),List.length_cons]
  omega
theorem cellsOf_front {l:List Ins} {es:List (Value×Value)} (h:es.length=l.length) (hl:l≠ []):(cellsOf l es).take ((l.length - 1)*7)=cellsOf l.dropLast es.dropLast:=by
 have he:es≠ []:=fun e=>hl (List.eq_nil_of_length_eq_zero (by rw [←h,e];rfl))
 have h1:cellsOf l es=cellsOf l.dropLast es.dropLast++cellsOf [l.getLast hl] [es.getLast he]:=by
  rw [←Yb3 (by simp [h]),List.dropLast_concat_getLast,List.dropLast_concat_getLast]
 have h2:(cellsOf l.dropLast es.dropLast).length=(l.length - 1)*7:=by rw [Qn (by simp [h]),List.length_dropLast]
 rw [h1,←h2,List.take_left]
theorem Z9.one_cells {w:World} {B:Nat} {v:Value} {l:List Ins} {es:List (Value×Value)} (h:Z9 w B v l es):∀u,u∈cellsOf l es→u.oneCell'=true:=cells_one l es fun e he9=>by
 obtain⟨q,hq⟩:=List.mem_iff_getElem?.1 he9
 have hql:=(Js.1 hq).1
 obtain⟨g1,g2, -⟩:=h.inn q _ e (Jg (by rw [←h.len];exact hql)) hq
 obtain⟨A1,C1,e1⟩:=Yd g1.row
 obtain⟨A2,C2,e2⟩:=Yd g2.row
 rw [e1,e2]
 exact⟨rfl,rfl⟩
theorem MF.turn {w w':World} {T T':Nat→Prop} {N:Nat} {f:Fun} {c d:Value} {bs:List (List Ins)} {xs:List Value} {ess:List (List (Value×Value))} (h:MF w T N f c d) (hk:∀k,k<w.heap.size→k=N∨c.ownBlock=some k→w'.heap[k]? = w.heap[k]?) (ht:Yq w' 0 d bs xs ess) (hT:∀k,TB d xs ess k→T' k) (hN:¬T' N) (hc:∀k,c.ownBlock=some k→¬T' k):MF w' T' N (Ye f bs) c d :=
 ⟨(hk N h.lt (.inl rfl)).trans h.box,⟨xs,ess,ht,hT⟩,⟨Yc h.par.row fun k hv=>hk k (Ya h.par.row hv).2.1 (.inr hv),h.par.ok⟩,fun k hv=>⟨hc k hv,(h.far k hv).2⟩,hN,h.ret,h.nm⟩
theorem Vt_ins {w : World} {gd n C b K gc m Cx i : Nat} {bs : List (List Ins)} {xs : List Value} {ess : List (List (Value × Value))} {l : List Ins} {es : List (Value × Value)} {x : Ins} {ca ct : Value} (h : Yq (Vt gd b w) 0 (.slice (some ⟨gd, 0, none⟩) n C) bs xs ess) (hb : bs[K]? = some l) (hx : xs[K]? = some (.slice (some ⟨gc, 0, none⟩) m Cx)) (he : ess[K]? = some es) (hi : l[i]? = some x) (hei : es[i]? = some (ca, ct)) :
  gc≠gd∧w.ownsRow 0 44 7 (.slice (some ⟨gc,0,none⟩) m Cx) m (cellsOf l es)∧OwnV w 0 ca x.args∧OwnI w 0 ct x.to∧Ybr x∧w.cell? ⟨gc,i*7,none⟩=some (.int .i64 x.op)∧(cellsOf l es)[i*7+5]? = some ca∧(cellsOf l es)[i*7+6]? = some ct:=by
 have hcd:=h.inn K _ l es hx hb he
 obtain⟨g1,g2,g3⟩:=hcd.inn i x _ hi hei
 have tyD:=(Ya h.row rfl).2.2
 have tyC:=(Ya hcd.row rfl).2.2
 have ne:gc≠gd:=Z7 tyC tyD (by decide)
 have hm:m=l.length:=by
  rcases hcd.row.2 with⟨e,_⟩|⟨g,cap,cur,e,_⟩
  ·cases e
  ·cases e;rfl
 subst hm
 have hil:=(Js.1 hi).1
 refine⟨ne,Yc hcd.row fun k hk=>(Yb5 (by cases hk;exact ne)).symm,⟨Yc g1.row fun k hk=>(Yb5 (Z7 (Ya g1.row hk).2.2 tyD (by decide))).symm,g1.ok⟩,⟨Yc g2.row fun k hk=>(Yb5 (Z7 (Ya g2.row hk).2.2 tyD (by decide))).symm,g2.ok⟩,g3,?_,?_,?_⟩
 ·rw [← Vt_cell (gd := gd) (b := b) ne]
  exact hcd.cell_at hi hei (j:=0) rfl
 ·rw [Ya6,show(i*7+5) / 7=i by omega,show(i*7+5) % 7=5 by omega,hi,hei];rfl
 ·rw [Ya6,show(i*7+6) / 7=i by omega,show(i*7+6) % 7=6 by omega,hi,hei];rfl
theorem MF.moved {wr w' : World} {T' : Nat → Prop} {N gd n C b K gc m Cx i : Nat} {g : Fun} {c : Value} {xs : List Value} {ess : List (List (Value × Value))} {l : List Ins} {es : List (Value × Value)} {x : Ins} {ca ct : Value} {p q : Int} {e : Ending} (h : MF (Vt gd b wr) T' N g c (.slice (some ⟨gd, 0, none⟩) n C)) (hk : Yq (Vt gd b wr) 0 (.slice (some ⟨gd, 0, none⟩) n C) g.blocks xs ess) (hT : ∀ k, TB (.slice (some ⟨gd, 0, none⟩) n C) xs ess k → T' k)
  (hb:g.blocks[K]? = some l) (hx:xs[K]? = some (.slice (some ⟨gc,0,none⟩) m Cx)) (he:ess[K]? = some es) (hi:l[i]? = some x) (hei:es[i]? = some (ca,ct)) (hp:MovPost wr gc m Cx i (cellsOf l es) p q x ca ct e w') :
  MF (Vt gd b w') T' N (Ye g (g.blocks.set K (l.set i (movI p q x)))) c (.slice (some ⟨gd,0,none⟩) n C)∧Only (fun k=>T' k∧k≠gd) wr.heap.size wr w':=by
 obtain⟨-,ca',ct',hV,hI,o1,o2,hrow,hon⟩:=hp
 obtain⟨ne,hr,hva,hvt,hok, -, -, -⟩:=Vt_ins hk hb hx he hi hei
 have hcd:=hk.inn K _ l es hx hb he
 have tyD:=(Ya hk.row rfl).2.2
 obtain⟨g1,g2, -⟩:=hcd.inn i x _ hi hei
 have Tgc:T' gc:=hT gc (.inr (.inl ⟨_,Jm hx,rfl⟩))
 have Tca:∀k,ca.ownBlock=some k→T' k∧k≠gd:=fun k hk9=>⟨hT k (.inr (.inr ⟨es,_,Jm he,Jm hei, .inl hk9⟩)),Z7 (Ya g1.row hk9).2.2 tyD (by decide)⟩
 have Tct:∀k,ct.ownBlock=some k→T' k∧k≠gd:=fun k hk9=>⟨hT k (.inr (.inr ⟨es,_,Jm he,Jm hei, .inr hk9⟩)),Z7 (Ya g2.row hk9).2.2 tyD (by decide)⟩
 have hon2:Only (fun k=>T' k∧k≠gd) wr.heap.size wr w':=hon.more fun k _ hk9=>by
  rcases hk9 with h1|h1|h1
  ·subst h1;exact⟨Tgc,ne⟩
  ·exact Tca k h1
  ·exact Tct k h1
 have hsz := @Vt_size gd b wr
 refine⟨?_,hon2⟩
 have hrow2:(Vt gd b w').ownsRow 0 44 7 (.slice (some ⟨gc,0,none⟩) m Cx) m (cellsOf (l.set i (movI p q x)) (es.set i (ca',ct'))):=by
  rw [←cells_56 hi hei hcd.len (movI_scalars p q x)]
  exact Yc hrow fun k hk9=>Yb5 (by cases hk9;exact ne)
 have hV2:OwnV (Vt gd b w') 0 ca' (movI p q x).args:=⟨Yc hV.row fun k hk9=>Yb5 (by rw [o1] at hk9;exact(Tca k hk9).2),hV.ok⟩
 have hI2:OwnI (Vt gd b w') 0 ct' (movI p q x).to:=⟨Yc hI.row fun k hk9=>Yb5 (by rw [o2] at hk9;exact(Tct k hk9).2),hI.ok⟩
 have hkd:=hk.put_ins (w':=Vt gd b w') hb hx he hi hei hrow2 hV2 hI2 (movI_ok hok) (fun k hk9 => .inl (by rwa [o1] at hk9)) (fun k hk9 => .inl (by rwa [o2] at hk9)) (fun k h1 h2 h3 h4=>by
  refine Vt_same (hon.block k (by rwa [hsz] at h1) ?_)
  rintro(h5|h5|h5)
  ·exact h2 h5
  ·exact h3 h5
  ·exact h4 h5)
 refine h.turn (fun k h1 h2=>Vt_same (hon.block k (by rwa [hsz] at h1) ?_)) hkd (fun k hk9 => ?_) h.out fun k hk9=>(h.far k hk9).1
 ·have hnT:¬T' k:=by
   rcases h2 with h2|h2
   ·subst h2;exact h.out
   ·exact(h.far k h2).1
  rintro(h5|h5|h5)
  ·subst h5;exact hnT Tgc
  ·exact hnT (Tca k h5).1
  ·exact hnT (Tct k h5).1
 ·rcases hk9 with h1 | h1 | ⟨a, z, h1, h2, h3⟩
  ·exact hT k (.inl h1)
  ·exact hT k (.inr (.inl h1))
  ·rcases List.mem_or_eq_of_mem_set h1 with h4 | h4
   ·exact hT k (.inr (.inr ⟨a,z,h4,h2,h3⟩))
   ·subst h4
    rcases List.mem_or_eq_of_mem_set h2 with h5|h5
    ·exact hT k (.inr (.inr ⟨es,z,Jm he,h5,h3⟩))
    ·subst h5
     rcases h3 with h3|h3
     ·exact(Tca k (by rw [←o1];exact h3)).1
     ·exact(Tct k (by rw [←o2];exact h3)).1
theorem MF.joined {V V1 : World} {T : Nat → Prop} {N gd n C a b gv mv Cv gb mb Cb : Nat} {f : Fun} {c : Value} {xs : List Value} {ess : List (List (Value × Value))} {la lb : List Ins} {ea eb : List (Value × Value)} (h : MF V T N f c (.slice (some ⟨gd, 0, none⟩) n C)) (hk : Yq V 0 (.slice (some ⟨gd, 0, none⟩) n C) f.blocks xs ess) (hT : ∀ k, TB (.slice (some ⟨gd, 0, none⟩) n C) xs ess k → T k)
  (ha:f.blocks[a]? = some la) (hb:f.blocks[b]? = some lb) (hea:ess[a]? = some ea) (heb:ess[b]? = some eb) (hxb:xs[b]? = some (.slice (some ⟨gb,0,none⟩) mb Cb)) (hab:a≠b) (hla:la≠ []) (hbel:Below V.heap.size V V1)
  (hv:V1.ownsRow V.heap.size 44 7 (.slice (some ⟨gv,0,none⟩) mv Cv) mv (cellsOf la.dropLast ea.dropLast++cellsOf lb eb)) (hTs:∀k,T k→k<V.heap.size) :
  MF (Vt gd b (V1.setCell ⟨gd,a,none⟩ (.slice (some ⟨gv,0,none⟩) mv Cv))) (fun k=>(T k∨k=gv)∧k≠gb) N (Ye f (Zb f.blocks a b)) c (.slice (some ⟨gd,0,none⟩) n C):=by
 have hgd:gd<V.heap.size:=(Ya hk.row rfl).2.1
 have tyD:=(Ya hk.row rfl).2.2
 have hgv:=Ya hv rfl
 have hca:=(hk.row_at ha)
 have hcb:=(hk.row_at hb)
 obtain⟨xa,ea',hxa,hea',hca⟩:=hca
 obtain⟨xb,eb',hxb',heb',hcb⟩:=hcb
 rw [hea] at hea'
 rw [heb] at heb'
 rw [hxb] at hxb'
 cases hea';cases heb';cases hxb'
 have tyB:=(Ya hcb.row rfl).2.2
 have hgb:gb<V.heap.size:=(Ya hcb.row rfl).2.1
 have hTgb:T gb:=hT gb (.inr (.inl ⟨_,Jm hxb,rfl⟩))
 have hTgd:T gd:=hT gd (.inl rfl)
 have hlv:(la.dropLast++lb).length=mv:=by
  have h1:=hv.1
  rw [List.length_append,Qn (by simp [hca.len]),Qn hcb.len] at h1
  rw [List.length_append]
  omega
 have hgv1:V.heap.size≤gv:=hgv.1
 have ngv:gv≠gd:=by omega
 have hmj:Zb f.blocks a b=(f.blocks.set a (la.dropLast++lb)).set b []:=by
  unfold Zb
  rw [Jq,ha,Jq,hb]
  rfl
 rw [hmj]
 have hro1:V1.ownsRow 0 41 1 (.slice (some ⟨gd,0,none⟩) n C) n xs:=by
  have hn:n=f.blocks.length:=by
   rcases hk.row.2 with⟨e, -⟩|⟨g,cap,cur,e, -⟩
   ·cases e
   ·cases e;rfl
  have:=hk.row
  rw [←hn] at this
  exact Yc this fun k hk9=>hbel.block k (Ya this hk9).2.1
 have hro2:=(World.ownsRow.stored (World.ownsRow.stored hro1 a (.slice (some ⟨gv,0,none⟩) mv Cv)).1 b (.slice none 0 0)).1
 have hkeep:∀k,k<V.heap.size→k≠gd→(Vt gd b (V1.setCell ⟨gd,a,none⟩ (.slice (some ⟨gv,0,none⟩) mv Cv))).heap[k]? = V.heap[k]? := fun k h1 h2=>by
  rw [Yb5 h2,Below.heap_setCell V1 ⟨gd,a,none⟩ _ k h2]
  exact hbel.block k h1
 have hj:=hk.join (w':=Vt gd b (V1.setCell ⟨gd,a,none⟩ (.slice (some ⟨gv,0,none⟩) mv Cv))) (v := .slice (some ⟨gv,0,none⟩) mv Cv) ha hb hea heb hab hla hro2 (by
  rw [hlv,Yb3 (by simp [hca.len])]
  refine Zf (Yc hv fun k hk9 => ?_) (Nat.zero_le _)
  cases hk9
  rw [Yb5 ngv]
  exact Below.heap_setCell V1 ⟨gd,a,none⟩ _ gv ngv) (fun k hk9=>by cases hk9;exact hgv.1) hkeep
 refine h.turn (fun k h1 h2=>hkeep k h1 ?_) hj (fun k hk9 => ?_) ?_ fun k hk9 => ?_
 ·intro e
  subst e
  rcases h2 with h2|h2
  ·subst h2;exact h.out hTgd
  ·exact(h.far _ h2).1 hTgd
 ·rcases hk9 with h1 | ⟨x, hx, h1⟩ | ⟨es, e, he, hee, h1⟩
  ·have e1 : gd = k := by simpa [Value.ownBlock] using h1
   subst e1
   exact⟨.inl hTgd,Z7 tyD tyB (by decide)⟩
  ·rcases List.mem_or_eq_of_mem_set hx with h2 | h2
   ·obtain ⟨j, hj9⟩ := List.mem_iff_getElem?.1 hx
    have hjb:j≠b:=fun e=>by
     subst e
     have hl9:j<(xs.set a (.slice (some ⟨gv,0,none⟩) mv Cv)).length:=by rw [List.length_set];exact(Js.1 hxb).1
     rw [Jf hl9] at hj9
     cases hj9
     cases h1
    rw [Je (Ne.symm hjb)] at hj9
    by_cases hja:j=a
    ·subst hja
     rw [Jf (Js.1 hxa).1] at hj9
     cases hj9
     have e1:gv=k:=by simpa [Value.ownBlock] using h1
     subst e1
     exact⟨.inr rfl,by omega⟩
    ·rw [Je (Ne.symm hja)] at hj9
     refine⟨.inl (hT k (.inr (.inl ⟨x,Jm hj9,h1⟩))),fun e => ?_⟩
     subst e
     exact hjb (nd_iff.1 hk.ndx j b x _ k hj9 hxb h1 rfl)
   ·subst h2;cases h1
  ·have hin:∃es',es'∈ess∧e∈es':=by
    rcases List.mem_or_eq_of_mem_set he with h2|h2
    ·rcases List.mem_or_eq_of_mem_set h2 with h3 | h3
     ·exact⟨es,h3,hee⟩
     ·subst h3
      rcases List.mem_append.1 hee with h4|h4
      ·exact⟨ea,Jm hea,(List.dropLast_sublist ea).subset h4⟩
      ·exact⟨eb,Jm heb,h4⟩
    ·subst h2;cases hee
   obtain⟨es',he',hee'⟩:=hin
   refine⟨.inl (hT k (.inr (.inr ⟨es',e,he',hee',h1⟩))),fun e9 => ?_⟩
   subst e9
   obtain⟨j,hj9⟩:=List.mem_iff_getElem?.1 he'
   obtain⟨r,hr9⟩:=List.mem_iff_getElem?.1 hee'
   have hjl:=(Js.1 hj9).1
   have l1:=hk.lenx
   have l2:=hk.lene
   have hc9:=hk.inn j _ _ es' (Jg (by omega)) (Jg (by omega)) hj9
   have hrl:=(Js.1 hr9).1
   have l3:=hc9.len
   obtain⟨g1,g2, -⟩:=hc9.inn r _ e (Jg (by omega)) hr9
   rcases h1 with h1|h1
   ·exact Z7 (Ya g1.row h1).2.2 tyB (by decide) rfl
   ·exact Z7 (Ya g2.row h1).2.2 tyB (by decide) rfl
 ·rintro ⟨h1 | h1, -⟩
  ·exact h.out h1
  ·have:=h.lt;omega
 ·rintro ⟨h1 | h1, -⟩
  ·exact(h.far k hk9).1 h1
  ·have:=(Ya h.par.row hk9).2.1;omega
theorem MF.real {wr w':World} {T':Nat→Prop} {N gd b:Nat} {g:Fun} {c d:Value} (h:MF (Vt gd b wr) T' N g c d) (hb:Below wr.heap.size wr w'):MF (Vt gd b w') T' N g c d:=h.kept fun k h1 _=>Vt_same (hb.block k (by rwa [Vt_size] at h1))
end Go.Proofs.YtamjcafjdioidaaGreat
