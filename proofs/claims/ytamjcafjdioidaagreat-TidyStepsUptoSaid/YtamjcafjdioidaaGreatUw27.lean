/- Texts of the chain, without what is not wanted: VrC, Sm. No condition but sizes. -/
import Derived.Test.YtamjcafjdioidaaGreatUw26
set_option linter.unusedVariables false
set_option linter.unusedSimpArgs false
set_option maxRecDepth 100000
set_option maxHeartbeats 12800000
namespace Go.Proofs.YtamjcafjdioidaaGreat
open Go.RowKit
def byteK (c:Nat):Int:=if 97≤c∧c≤122∨c=95 then 1 else if 48≤c∧c≤57 then 2 else 0
def kindS (s:ByteArray) (i:Nat):Int:=if h:i<s.size then byteK (s[i]'h).toNat else 0
theorem kindS_out {s:ByteArray} {i:Nat} (h:¬i<s.size):kindS s i=0:=dif_neg h
theorem kind_any (s : ByteArray) (i : Nat) (w : World) (hi : i ≤ 9223372036854775807) (hs : s.size ≤ maxLen) :
  Calls Tryz.prog 142 #[.string s, .int .i64 i] w fun e w'=>e = .returned (.int .i64 (kindS s i))∧w'=w:=by
 by_cases hlt:i<s.size
 ·have h1 : ¬ (i : Int) ≥ (s.size : Int) := by omega
  have h2:(i:Int)<(s.size:Int):=by omega
  obtain⟨c,hc⟩:∃c,Hid ((s[i]'hlt).toNat=c):=⟨_,hide rfl⟩
  have hk:Hid (kindS s i=byteK c):=hide (by unfold kindS;rw [dif_pos hlt,hc.out])
  rw [hk.out]
  go_enter Tryz.func142,Tryz.ntmps142
  go_upto_region 4 with(fail)
  rw [hc.out]
  by_cases a1:97≤c
  ·have b1 : (c : Int) ≥ 97 := by omega
   by_cases a2:c≤122
   ·have b2 : (c : Int) ≤ 122 := by omega
    have hr:Hid (byteK c=1):=hide (if_pos (.inl ⟨a1,a2⟩))
    go_wp2
    go_ret
    exact⟨by rw [hr.out];rfl,rfl⟩
   ·have b2 : ¬ (c : Int) ≤ 122 := by omega
    have b3:((c:Int)==95)=false:=by rw [beq_eq_false_iff_ne];omega
    have b4:(c:Int) ≥ 48:=by omega
    have b5:¬(c:Int)≤57:=by omega
    have hr:Hid (byteK c=0):=hide (by unfold byteK;rw [if_neg (by omega),if_neg (by omega)])
    go_wp2
    go_ret
    exact⟨by rw [hr.out];rfl,rfl⟩
  ·have b1 : ¬ (c : Int) ≥ 97 := by omega
   by_cases a3:c=95
   ·have b3 : ((c : Int) == 95) = true := by rw [a3]; rfl
    have hr:Hid (byteK c=1):=hide (if_pos (.inr a3))
    replace a3:=hide a3
    go_wp2
    go_ret
    exact⟨by rw [hr.out];rfl,rfl⟩
   ·have b3 : ((c : Int) == 95) = false := by rw [beq_eq_false_iff_ne]; omega
    by_cases a4:48≤c
    ·have b4 : (c : Int) ≥ 48 := by omega
     by_cases a5:c≤57
     ·have b5 : (c : Int) ≤ 57 := by omega
      have hr:Hid (byteK c=2):=hide (by unfold byteK;rw [if_neg (by omega),if_pos ⟨a4,a5⟩])
      go_wp2
      go_ret
      exact⟨by rw [hr.out];rfl,rfl⟩
     ·have b5 : ¬ (c : Int) ≤ 57 := by omega
      have hr:Hid (byteK c=0):=hide (by unfold byteK;rw [if_neg (by omega),if_neg (by omega)])
      go_wp2
      go_ret
      exact⟨by rw [hr.out];rfl,rfl⟩
    ·have b4 : ¬ (c : Int) ≥ 48 := by omega
     have hr:Hid (byteK c=0):=hide (by unfold byteK;rw [if_neg (by omega),if_neg (by omega)])
     go_wp2
     go_ret
     exact⟨by rw [hr.out];rfl,rfl⟩
 ·have h1 : (i : Int) ≥ (s.size : Int) := by omega
  have hr:Hid (kindS s i=0):=hide (kindS_out hlt)
  go_enter Tryz.func142,Tryz.ntmps142
  go_wp2
  go_ret
  exact⟨by rw [hr.out];rfl,rfl⟩
def runS (s : ByteArray) : Nat → Nat → Nat
 | 0,n=>n
 | k+1,n=>if kindS s n=0 then n else runS s k (n+1)
def wordS (s:ByteArray):Nat:=if kindS s 0=1 then runS s s.size 1 else 0
def wordB (s:ByteArray):Bool:=decide (0<s.size∧wordS s=s.size)
theorem word_any (s : ByteArray) (w : World) (hs : s.size ≤ maxLen) :
  Calls Tryz.prog 117 #[.string s, .int .i64 0] w fun e w'=>e = .returned (.int .i64 (wordS s))∧w'=w:=by
 have hs2:=hs
 unfold maxLen at hs2
 go_enter Tryz.func117,Tryz.ntmps117
 go_wp2_with (fail)
 refine(kind_any s 0 w (by omega) hs).mono ?_
 rintro e w9 ⟨rfl,hw9⟩
 subst hw9
 by_cases h0:kindS s 0=1
 ·have b0 : (kindS s 0 != 1) = false := by rw [h0]; rfl
  have hr:Hid (wordS s=runS s s.size 1):=hide (if_pos h0)
  have hpos:1≤s.size:=Nat.lt_of_not_le fun h=>by rw [kindS_out (by omega)] at h0;cases h0
  replace h0:=hide h0
  go_wp2
  go_loopg [5] s.size (fun g j wr=>∃n:Nat,j = .int .i64 n∧Hid (runS s g n=runS s s.size 1)∧s.size+1≤n+g+1∧n≤s.size∧wr=w9)
  case atStart=>exact⟨1,rfl,hide rfl,by omega,by omega,rfl⟩
  case round =>
   obtain⟨n,rfl,hg,hn,hn2,hw9⟩:=hrel
   subst hw9
   rename World=>V
   go_wp2_with (fail)
   refine(kind_any s n _ (by omega) hs).mono ?_
   rintro e w8 ⟨rfl,hw8⟩
   subst hw8
   by_cases hk:kindS s n=0
   ·have b1 : (kindS s n != 0) = false := by rw [hk]; rfl
    have hfin:Hid (wordS s=n):=hide (by
     rw [hr.out,←hg.out]
     cases gk with
     | zero=>rfl
     | succ k=>exact if_pos hk)
    replace hk:=hide hk
    go_wp2
    go_ret
    exact⟨by rw [hfin.out];rfl,rfl⟩
   ·have b1 : (kindS s n != 0) = true := by simpa using hk
    have hlt:n<s.size:=Nat.lt_of_not_le fun h=>hk (kindS_out (by omega))
    obtain⟨g',hg'⟩:∃g',Hid (gk=g'+1):=⟨gk - 1,hide (by omega)⟩
    have hnx:Hid (runS s g' (n+1)=runS s s.size 1):=hide (by
     rw [←hg.out,hg'.out]
     exact(if_neg hk).symm)
    replace hk:=hide hk
    have hgl:g'<gk:=by have:=hg'.out;omega
    have hgn:s.size+1≤n+1+g'+1:=by have:=hg'.out;omega
    go_wp2
    go_roundg g'
    case measure=>exact hgl
    case rel=>exact⟨n+1,by go_num,hnx,hgn,by omega,rfl⟩
 ·have b0 : (kindS s 0 != 1) = true := by simpa using h0
  have hr:Hid (wordS s=0):=hide (if_neg h0)
  replace h0:=hide h0
  go_wp2
  go_ret
  exact⟨by rw [hr.out];rfl,rfl⟩
theorem isword_any (s : ByteArray) (w : World) (hs : s.size ≤ maxLen) :
  Calls Tryz.prog 87 #[.string s] w (RetB (wordB s) w):=by
 have hs2:=hs
 unfold maxLen at hs2
 by_cases h0:0<s.size
 ·have b0 : (s.size : Int) > 0 := by omega
  have hr:Hid (wordB s=((wordS s:Int)==(s.size:Int))):=hide (by
   unfold wordB
   rw [Bool.eq_iff_iff,decide_eq_true_eq,beq_iff_eq]
   omega)
  go_enter Tryz.func87,Tryz.ntmps87
  go_wp2_with (fail)
  refine(word_any s w hs).mono ?_
  rintro e w9 ⟨rfl,hw9⟩
  subst hw9
  go_wp2
  go_ret
  exact⟨by rw [hr.out];rfl,Below.refl _ _⟩
 ·have b0 : ¬ (s.size : Int) > 0 := by omega
  have hr:Hid (wordB s=false):=hide (decide_eq_false (fun h=>h0 h.1))
  go_enter Tryz.func87,Tryz.ntmps87
  go_wp2
  go_ret
  exact⟨by rw [hr.out];rfl,Below.refl _ _⟩
abbrev Fault (c f b i:Int):Value := .agg #[.int .i64 c, .int .i64 f, .int .i64 b, .int .i64 i]
theorem Zc (c f b i:Int) (w:World):Calls Tryz.prog 86 #[.int .i64 c, .int .i64 f, .int .i64 b, .int .i64 i] w fun e w'=>e = .returned (Fault c f b i)∧Below w.heap.size w w':=by
 have hb:Below w.heap.size w ((w.alloc (.cells #[.int .i64 0, .int .i64 0, .int .i64 0, .int .i64 0] 50))):=bk _ _
 go_enter Tryz.func86,Tryz.ntmps86
 go_wp2
 have hq:=Yu w (.cells #[.int .i64 c, .int .i64 f, .int .i64 b, .int .i64 i] 50)
 have c0:(w.alloc (.cells #[.int .i64 c, .int .i64 f, .int .i64 b, .int .i64 i] 50)).cell? ⟨w.heap.size,0,none⟩=some (.int .i64 c):=Ya8 hq rfl (by simp) (Below.refl _ _)
 have c1:(w.alloc (.cells #[.int .i64 c, .int .i64 f, .int .i64 b, .int .i64 i] 50)).cell? ⟨w.heap.size,1,none⟩=some (.int .i64 f):=Ya8 hq rfl (by simp) (Below.refl _ _)
 have c2:(w.alloc (.cells #[.int .i64 c, .int .i64 f, .int .i64 b, .int .i64 i] 50)).cell? ⟨w.heap.size,2,none⟩=some (.int .i64 b):=Ya8 hq rfl (by simp) (Below.refl _ _)
 have c3:(w.alloc (.cells #[.int .i64 c, .int .i64 f, .int .i64 b, .int .i64 i] 50)).cell? ⟨w.heap.size,3,none⟩=some (.int .i64 i):=Ya8 hq rfl (by simp) (Below.refl _ _)
 exact bodyPost_ret (v:=Fault c f b i) (by simp [results,Tryz.results86,go_sem,c0,c1,c2,c3,Fault]) rfl ⟨rfl,bk _ _⟩
def OwnS (w:World) (B:Nat) (v:Value) (l:List ByteArray):Prop:=w.ownsRow B 9 1 v l.length (l.map fun s=>Value.string s)
theorem OwnS.nil_ {w:World} {B:Nat}:OwnS w B (.slice none 0 0) []:=⟨rfl, .inl ⟨rfl,rfl⟩⟩
theorem OwnS.kept {w w':World} {B:Nat} {v:Value} {l:List ByteArray} (h:OwnS w B v l) (hk:∀k,B≤k→k<w.heap.size→w'.heap[k]? = w.heap[k]?):OwnS w' B v l:=Yc h fun k hv=>hk k (Ya h hv).1 (Ya h hv).2.1
theorem OwnS.snoc {w':World} {B:Nat} {v':Value} {l:List ByteArray} {t:ByteArray} (h:w'.ownsRow B 9 1 v' (l.length+1) (l.map (fun z=>Value.string z) ++ [.string t])):OwnS w' B v' (l ++ [t]):=by
 unfold OwnS
 simpa using h
theorem str_reads {X:World} {B:Nat} {v:Value} {l:List ByteArray} (h:OwnS X B v l):∃A C,v = .slice A l.length C∧(0<l.length→∃g,A=some ⟨g,0,none⟩∧∀(i:Nat) x,l[i]? = some x→∀w',Below X.heap.size X w'→w'.cell? ⟨g,i,none⟩=some (.string x)):=by
 obtain⟨A,C,rfl⟩:=Yd h
 refine⟨A,C,rfl,fun hl => ?_⟩
 obtain⟨g,cap,hv, -, -⟩:=World.ownsRow.form h hl
 cases hv
 refine⟨g,rfl,fun i x hi w' hb => ?_⟩
 rw [hb.cell (p:=⟨g,i,none⟩) (Ya h rfl).2.1,World.ownsRow.cellAt h i (by have:=(Js.1 hi).1;omega),List.getElem?_map,hi]
 rfl
theorem cinfo_string:(Tryz.prog.info? 9).map (fun i=>(i.zero,i.size,i.bytes))=some (some (.string ⟨#[]⟩),1,16):=by kernel_rfl
def Ycl (name:ByteArray) (known:List ByteArray) (params:List Int) (ret most:Int):Prop :=
 wordB name=true∧name∉known∧params.length≤8∧(∀p,p∈params→1≤p∧p≤most)∧0≤ret∧ret≤most
def Yz (P:Prop) (w:World) (e:Ending) (w':World):Prop:=∃c:Int,e = .returned (.int .i64 c)∧(c=0↔P)∧Below w.heap.size w w'
theorem head_any (name : ByteArray) (known : List ByteArray) (params : List Int) (ret most : Int) (u v : Value) (w : World) (B B' : Nat) (hB : B ≤ w.heap.size) (hn : name.size ≤ maxLen) (hk : OwnS w B' u known) (hp : Z4.rep w B [v] params) (hkl : known.length ≤ 4000000) :
  Calls Tryz.prog 88 #[.string name,u,v, .int .i64 ret, .int .i64 most] w (Yz (Ycl name known params ret most) w):=by
 obtain⟨A1,C1,rfl,gk⟩:=str_reads hk
 obtain⟨A2,C2,h2,hm2,gp⟩:=Rp.slice1_open (Z4.later hp (Below.refl _ _) hB)
 cases h2
 obtain⟨nk,hnk⟩:∃n,Hid (n=known.length):=⟨_,hide rfl⟩
 obtain⟨np,hnp⟩:∃n,Hid (n=params.length):=⟨_,hide rfl⟩
 rw [←hnk.out] at hkl⊢
 rw [←hnp.out] at hm2⊢
 refine hd2 gk gp ?_;clear gk gp;intro gk gp
 clear hk hp
 go_enter Tryz.func88,Tryz.ntmps88
 go_wp2_with (fail)
 refine(isword_any name w hn).mono ?_
 rintro e W ⟨rfl,hb⟩
 cases hwd:wordB name with
 | false =>
  have hfin:Hid (Yz (Ycl name known params ret most) w (.returned (.int .i64 4)) W):=hide ⟨4,rfl,⟨fun h=>by omega,fun h=>by rw [h.1] at hwd;cases hwd⟩,hb⟩
  replace hwd:=hide hwd
  go_wp2
  go_ret
  exact hfin.out
 | true =>
  have hs:=hb.size
  go_wp2
  go_loopw [12] (fun s wr=>∃i:Nat,s = .int .i64 i∧i≤nk∧Hid (name∉known.take i)∧wr=W) (fun s _=>nk - (intOf s).toNat)
  case atStart=>exact⟨0,rfl,Nat.zero_le _,hide (by simp),rfl⟩
  case round =>
   obtain⟨i,rfl,hi,hno,hw9⟩:=hrel
   subst hw9
   rename World=>V
   by_cases hlt:i<nk
   ·have hii : (i : Int) < (nk : Int) := by omega
    obtain⟨x,hx⟩:=Yf (l:=known) (k:=i) (by rw [←hnk.out];exact hlt)
    obtain⟨g1,hg1,r1⟩:=gk.out (by rw [←hnk.out];omega)
    subst hg1
    have r1:=r1 i x hx.out V hb
    by_cases hxn:x=name
    ·have e0 : (x.toList == name.toList) = true := by rw [hxn]; simp
     have hfin:Hid (Yz (Ycl name known params ret most) w (.returned (.int .i64 5)) V):=hide ⟨5,rfl,⟨fun h=>by omega,fun h=>absurd (by rw [←hxn];exact Jm hx.out) h.2.1⟩,hb⟩
     replace hxn:=hide hxn
     go_wp2
     go_ret
     exact hfin.out
    ·have e0 : (x.toList == name.toList) = false := beq_eq_false_iff_ne.2 (fun h => hxn (bytes_same h))
     have hnx:Hid (name∉known.take (i+1)):=hide (by
      rw [Zl hx.out,List.mem_append,List.mem_singleton]
      rintro(h|h)
      ·exact hno.out h
      ·exact hxn h.symm)
     replace hxn:=hide hxn
     go_wp2
     go_roundw
     case rel=>exact⟨i+1,rfl,hlt,hnx,trivial⟩
     case measure=>simp [intOf];omega
   ·have hnk2:Hid (name∉known):=hide (by
     have h:=hno.out
     rwa [List.take_of_length_le (by rw [←hnk.out];omega)] at h)
    have hni:¬(i:Int)<(nk:Int):=by omega
    by_cases h8:np≤8
    ·have d1 : ¬ (np : Int) > 8 := by omega
     go_wp2
     go_loopw [13] (fun s wr=>∃j:Nat,s = .int .i64 j∧j≤np∧Hid (∀p,p∈params.take j→1≤p∧p≤most)∧wr=V) (fun s _=>np - (intOf s).toNat)
     case atStart=>exact⟨0,rfl,Nat.zero_le _,hide (by simp),rfl⟩
     case round =>
      obtain⟨j,rfl,hj,hpp,hw9⟩:=hrel
      subst hw9
      rename World=>V
      by_cases hltj:j<np
      ·have hjj : (j : Int) < (np : Int) := by omega
       obtain⟨x,hx⟩:=Yf (l:=params) (k:=j) (by rw [←hnp.out];exact hltj)
       obtain⟨b1,o1,hA2,he⟩:=gp.out (by rw [←hnp.out];omega)
       subst hA2
       obtain⟨c,hc,r1⟩:=he j x hx.out
       have hc:=hc.1
       cases hc
       have r1:=r1 V hb
       clear he
       by_cases hb1:1≤x
       ·have d2 : ¬ x < 1 := by omega
        by_cases hb2:x≤most
        ·have d3 : ¬ x > most := by omega
         have hnx:Hid (∀p,p∈params.take (j+1)→1≤p∧p≤most):=hide (by
          rw [Zl hx.out]
          intro p hp
          rcases List.mem_append.1 hp with h|h
          ·exact hpp.out p h
          ·rw [List.mem_singleton.1 h];exact⟨hb1,hb2⟩)
         go_wp2
         go_roundw
         case rel=>exact⟨j+1,by go_num,hltj,hnx,trivial⟩
         case measure=>simp [intOf];omega
        ·have d3 : x > most := by omega
         have hfin:Hid (Yz (Ycl name known params ret most) w (.returned (.int .i64 7)) V):=hide ⟨7,rfl,⟨fun h=>by omega,fun h=>absurd (h.2.2.2.1 x (Jm hx.out)).2 hb2⟩,hb⟩
         go_wp2
         go_ret
         exact hfin.out
       ·have d2 : x < 1 := by omega
        have hfin:Hid (Yz (Ycl name known params ret most) w (.returned (.int .i64 7)) V):=hide ⟨7,rfl,⟨fun h=>by omega,fun h=>absurd (h.2.2.2.1 x (Jm hx.out)).1 hb1⟩,hb⟩
        go_wp2
        go_ret
        exact hfin.out
      ·have hjn : ¬ (j : Int) < (np : Int) := by omega
       have hpa:Hid (∀p,p∈params→1≤p∧p≤most):=hide (by
        have h:=hpp.out
        rwa [List.take_of_length_le (by rw [←hnp.out];omega)] at h)
       by_cases hr0:0≤ret
       ·have d2 : ¬ ret < 0 := by omega
        by_cases hr1:ret≤most
        ·have d3 : ¬ ret > most := by omega
         have hfin:Hid (Yz (Ycl name known params ret most) w (.returned (.int .i64 0)) V):=hide ⟨0,rfl,⟨fun _=>⟨hwd,hnk2.out,by rw [←hnp.out];exact h8,hpa.out,hr0,hr1⟩,fun _=>rfl⟩,hb⟩
         go_wp2
         go_ret
         exact hfin.out
        ·have d3 : ret > most := by omega
         have hfin:Hid (Yz (Ycl name known params ret most) w (.returned (.int .i64 7)) V):=hide ⟨7,rfl,⟨fun h=>by omega,fun h=>absurd h.2.2.2.2.2 hr1⟩,hb⟩
         go_wp2
         go_ret
         exact hfin.out
       ·have d2 : ret < 0 := by omega
        have hfin:Hid (Yz (Ycl name known params ret most) w (.returned (.int .i64 7)) V):=hide ⟨7,rfl,⟨fun h=>by omega,fun h=>absurd h.2.2.2.2.1 hr0⟩,hb⟩
        go_wp2
        go_ret
        exact hfin.out
    ·have d1 : (np : Int) > 8 := by omega
     have hfin:Hid (Yz (Ycl name known params ret most) w (.returned (.int .i64 6)) V):=hide ⟨6,rfl,⟨fun h=>by omega,fun h=>absurd h.2.2.1 (by rw [←hnp.out];exact h8)⟩,hb⟩
     go_wp2
     go_ret
     exact hfin.out
def Z2 (P:Prop) (w:World) (e:Ending) (w':World):Prop:=∃c f b i:Int,e = .returned (Fault c f b i)∧(c=0↔P)∧Below w.heap.size w w'
section
variable {X w:World} {R:Nat} {x0 x1 x2 x3 u0 u1 u2 u3:Value}
theorem Zz (h:X.heap[R]? = some (.cells #[x0,x1,x2,x3] 50 (0,0))):X.cell? ⟨R,0,none⟩=some x0∧X.cell? ⟨R,1,none⟩=some x1∧X.cell? ⟨R,2,none⟩=some x2∧X.cell? ⟨R,3,none⟩=some x3:=by simp [World.cell?,h]
theorem Yj (h:X.heap[R]? = some (.cells #[x0,x1,x2,x3] 50 (0,0))):X.frozen? ⟨R,0,none⟩=false∧X.frozen? ⟨R,1,none⟩=false∧X.frozen? ⟨R,2,none⟩=false∧X.frozen? ⟨R,3,none⟩=false:=⟨Ym h,Ym h,Ym h,Ym h⟩
theorem set9 (h:X.heap[R]? = some (.cells #[x0,x1,x2,x3] 50 (0,0))):((((X.setCell ⟨R,0,none⟩ u0).setCell ⟨R,1,none⟩ u1).setCell ⟨R,2,none⟩ u2).setCell ⟨R,3,none⟩ u3).heap[R]? = some (.cells #[u0,u1,u2,u3] 50 (0,0)) :=
 Yr (j:=3) (v:=u3) (Yr (j:=2) (v:=u2) (Yr (j:=1) (v:=u1) (Yr (j:=0) (v:=u0) h)))
theorem Zq (h:X.heap[R]? = some (.cells #[x0,x1,x2,x3] 50 (0,0))):((((X.setCell ⟨R,0,none⟩ u0).setCell ⟨R,1,none⟩ u1).setCell ⟨R,2,none⟩ u2).setCell ⟨R,3,none⟩ u3).cell? ⟨R,0,none⟩=some u0∧((((X.setCell ⟨R,0,none⟩ u0).setCell ⟨R,1,none⟩ u1).setCell ⟨R,2,none⟩ u2).setCell ⟨R,3,none⟩ u3).cell? ⟨R,1,none⟩=some u1∧
  ((((X.setCell ⟨R,0,none⟩ u0).setCell ⟨R,1,none⟩ u1).setCell ⟨R,2,none⟩ u2).setCell ⟨R,3,none⟩ u3).cell? ⟨R,2,none⟩=some u2∧((((X.setCell ⟨R,0,none⟩ u0).setCell ⟨R,1,none⟩ u1).setCell ⟨R,2,none⟩ u2).setCell ⟨R,3,none⟩ u3).cell? ⟨R,3,none⟩=some u3:=Zz (set9 h)
theorem Zs (h:Below w.heap.size w X) (hR:w.heap.size≤R):Below w.heap.size w ((((X.setCell ⟨R,0,none⟩ u0).setCell ⟨R,1,none⟩ u1).setCell ⟨R,2,none⟩ u2).setCell ⟨R,3,none⟩ u3) :=
 (((h.setCell (p:=⟨R,0,none⟩) hR _).setCell (p:=⟨R,1,none⟩) hR _).setCell (p:=⟨R,2,none⟩) hR _).setCell (p:=⟨R,3,none⟩) hR _
end
theorem Yp {P:Prop} {fn:Func} {w w':World} {a:Act} {c k b i:Int} (h1:(results fn a.tmps).run Tryz.prog w' = .ok (Fault c k b i) w') (hd:a.defers = []) (hP:c=0↔P) (hb:Below w.heap.size w w'):bodyPost Tryz.prog fn (Z2 P w) .ret a w' :=
 bodyPost_ret h1 hd ⟨c,k,b,i,rfl,hP,hb⟩
def Qm (m:Mod):Prop:=(m.vars.length≤8∧m.exts.length≤8∧m.funcs.length≤8)∧
 (∀(i:Nat) v,m.vars[i]? = some v→wordB v.name=true∧(∀(k:Nat) u,k<i→m.vars[k]? = some u→u.name≠v.name)∧1≤v.size∧v.size≤64)∧
 (∀(i:Nat) x,m.exts[i]? = some x→Ycl x.name ((m.exts.take i).map fun x=>x.name) x.params x.ret 64)∧
 (∀(i:Nat) f,m.funcs[i]? = some f→Ycl f.name ((m.exts.map fun x=>x.name)++(m.funcs.take i).map fun f=>f.name) f.params f.ret 65)
def VarsOk (m:Mod) (k:Nat):Prop:=∀(i:Nat) v,i<k→m.vars[i]? = some v→wordB v.name=true∧(∀(k:Nat) u,k<i→m.vars[k]? = some u→u.name≠v.name)∧1≤v.size∧v.size≤64
def ExtsOk (m:Mod) (k:Nat):Prop:=∀(i:Nat) x,i<k→m.exts[i]? = some x→Ycl x.name ((m.exts.take i).map fun x=>x.name) x.params x.ret 64
def FunsOk8 (m:Mod) (k:Nat):Prop:=∀(i:Nat) f,i<k→m.funcs[i]? = some f→Ycl f.name ((m.exts.map fun x=>x.name)++(m.funcs.take i).map fun f=>f.name) f.params f.ret 65
theorem names_next {w1 : World} {B k C : Nat} {A : Option Addr} {l : List Ext} {x : Ext} (hl : ((l.take k).map fun x => x.name).length = k) (hx : l[k]? = some x) (h : w1.ownsRow B 9 1 (.slice A (k + 1) C) (k + 1) (((l.take k).map fun x => x.name).map (fun s => Value.string s) ++ [.string x.name])) :
  OwnS w1 B (.slice A (k+1) C) ((l.take (k+1)).map fun x=>x.name):=by
 rw [Zl hx,List.map_append]
 refine OwnS.snoc ?_
 rw [hl];exact h
theorem names_more {w1 : World} {B k i C : Nat} {A : Option Addr} {p : List ByteArray} {l : List Fun} {x : Fun} (hl : (p ++ (l.take i).map fun f => f.name).length = k + i) (hx : l[i]? = some x) (h : w1.ownsRow B 9 1 (.slice A (k + i + 1) C) (k + i + 1) ((p ++ (l.take i).map fun f => f.name).map (fun s => Value.string s) ++ [.string x.name])) :
  OwnS w1 B (.slice A (k+(i+1)) C) (p++(l.take (i+1)).map fun f=>f.name):=by
 rw [Zl hx,List.map_append,←List.append_assoc]
 refine OwnS.snoc ?_
 rw [hl];exact h
theorem heads_any (m : Mod) (c1 d1 e1 : Value) (w : World) (B : Nat) (hB : B ≤ w.heap.size) (ha : RMod.rep w B [c1, d1, e1] m) :
  Calls Tryz.prog 45 #[m.v c1 d1 e1] w (Z2 (Qm m) w):=by
 obtain⟨hav,hax,haf⟩:=Yby (RMod.later ha (Below.refl _ _) hB)
 obtain⟨A1,k1,h1,hm1,gv⟩:=Rp.slice_open hav
 cases h1
 obtain⟨A3,k3,rfl,hl3,gx⟩:=exts_at hax
 obtain⟨A5,k5,rfl,hl5,gf⟩:=funs_at haf
 clear ha hav hax haf
 obtain⟨n1,hn1⟩:∃n,Hid (n=m.vars.length):=⟨_,hide rfl⟩
 obtain⟨n3,hn3⟩:∃n,Hid (n=m.exts.length):=⟨_,hide rfl⟩
 obtain⟨n5,hn5⟩:∃n,Hid (n=m.funcs.length):=⟨_,hide rfl⟩
 rw [←hn1.out] at hm1⊢
 rw [←hn3.out] at hl3⊢
 rw [←hn5.out] at hl5⊢
 obtain⟨W,hW,hwW,hWs,hx,hy⟩:=Ql w #[.slice A1 n1 k1, .slice A3 n3 k3, .slice A5 n5 k5] #[.int .i64 0, .int .i64 0, .int .i64 0, .int .i64 0] 26 50
 have x0:=hx 0 _ rfl
 have x1:=hx 1 _ rfl
 have x2:=hx 2 _ rfl
 obtain⟨R,hRd⟩:=Jn (w.heap.size+1)
 have hR:Hid (W.heap[R]? = some (.cells #[.int .i64 0, .int .i64 0, .int .i64 0, .int .i64 0] 50 (0,0))):=hide (by
  rw [hRd.out,←hW]
  have:=Yu (w.alloc (.cells #[.slice A1 n1 k1, .slice A3 n3 k3, .slice A5 n5 k5] 26)) (.cells #[.int .i64 0, .int .i64 0, .int .i64 0, .int .i64 0] 50)
  simpa using this)
 have hRW:R<W.heap.size:=by have:=hRd.out;omega
 have hRw:Hid (w.heap.size≤R):=hide (by have:=hRd.out;omega)
 clear hx hy
 have hws:w.heap.size≤W.heap.size:=by omega
 have hwX:Hid (∀w',Below W.heap.size W w'→Below w.heap.size w w'):=hide (fun w' h=>hwW.trans (h.mono hws))
 refine hd4 hWs gv gx gf ?_;clear hWs gv gx gf;intro hWs gv gx gf
 have hbel:=Below.refl W.heap.size W
 refine hd2 hW hwW ?_;clear hW hwW;intro hW hwW
 go_enter Tryz.func45,Tryz.ntmps45
 go_upto_region 1 with(fail)
 rw [hW.out,←hRd.out]
 clear hW
 by_cases hlen:n1≤8∧n3≤8∧n5≤8
 case neg =>
  have hfx:Hid ((6:Int)=0↔Qm m):=hide ⟨fun h=>by omega,fun h=>absurd (by rw [hn1.out,hn3.out,hn5.out];exact h.1) hlen⟩
  by_cases g1:n1≤8
  ·have a1 : ¬ (n1 : Int) > 8 := by omega
   by_cases g2:n3≤8
   ·have a2 : ¬ (n3 : Int) > 8 := by omega
    have a3:(n5:Int) > 8:=by omega
    replace hlen:=hide hlen
    go_wp2_with (fail)
    refine(Zc _ _ _ _ _).mono ?_
    rintro e X9 ⟨rfl,hb9⟩
    have hk9:Below W.heap.size W X9:=hbel.trans (hb9.mono hbel.size)
    have hR9:X9.heap[R]? = _:=(hk9.block R hRW).trans hR.out
    obtain⟨z0,z1,z2,z3⟩:=Zz hR9
    obtain⟨f0,f1,f2,f3⟩:=Yj hR9
    go_wp2
    refine Yp (c:=6) (k:=(-1)) (b:=0) (i:=0) ?_ (by rfl) hfx.out (Zs (hwX.out X9 hk9) hRw.out)
    obtain⟨y0,y1,y2,y3⟩:=Zq (u0 := .int .i64 (6)) (u1 := .int .i64 (-1)) (u2 := .int .i64 (0)) (u3 := .int .i64 (0)) hR9
    simp [results,Tryz.results45,go_sem,y0,y1,y2,y3]
   ·have a2 : (n3 : Int) > 8 := by omega
    replace hlen:=hide hlen
    go_wp2_with (fail)
    refine(Zc _ _ _ _ _).mono ?_
    rintro e X9 ⟨rfl,hb9⟩
    have hk9:Below W.heap.size W X9:=hbel.trans (hb9.mono hbel.size)
    have hR9:X9.heap[R]? = _:=(hk9.block R hRW).trans hR.out
    obtain⟨z0,z1,z2,z3⟩:=Zz hR9
    obtain⟨f0,f1,f2,f3⟩:=Yj hR9
    go_wp2
    refine Yp (c:=6) (k:=(-1)) (b:=0) (i:=0) ?_ (by rfl) hfx.out (Zs (hwX.out X9 hk9) hRw.out)
    obtain⟨y0,y1,y2,y3⟩:=Zq (u0 := .int .i64 (6)) (u1 := .int .i64 (-1)) (u2 := .int .i64 (0)) (u3 := .int .i64 (0)) hR9
    simp [results,Tryz.results45,go_sem,y0,y1,y2,y3]
  ·have a1 : (n1 : Int) > 8 := by omega
   replace hlen:=hide hlen
   go_wp2_with (fail)
   refine(Zc _ _ _ _ _).mono ?_
   rintro e X9 ⟨rfl,hb9⟩
   have hk9:Below W.heap.size W X9:=hbel.trans (hb9.mono hbel.size)
   have hR9:X9.heap[R]? = _:=(hk9.block R hRW).trans hR.out
   obtain⟨z0,z1,z2,z3⟩:=Zz hR9
   obtain⟨f0,f1,f2,f3⟩:=Yj hR9
   go_wp2
   refine Yp (c:=6) (k:=(-1)) (b:=0) (i:=0) ?_ (by rfl) hfx.out (Zs (hwX.out X9 hk9) hRw.out)
   obtain⟨y0,y1,y2,y3⟩:=Zq (u0 := .int .i64 (6)) (u1 := .int .i64 (-1)) (u2 := .int .i64 (0)) (u3 := .int .i64 (0)) hR9
   simp [results,Tryz.results45,go_sem,y0,y1,y2,y3]
 ·obtain ⟨l1, l3, l5⟩ := hlen
  have a1:¬(n1:Int) > 8:=by omega
  have a2:¬(n3:Int) > 8:=by omega
  have a3:¬(n5:Int) > 8:=by omega
  obtain⟨i0,hi0,hz0,hz1,hz2⟩:=Yh cinfo_string
  refine hd4 hi0 hz0 hz1 hz2 ?_;clear hi0 hz0 hz1 hz2;intro hi0 hz0 hz1 hz2
  have hself:=hbel
  clear hbel
  have hok0:Hid (VarsOk m 0):=hide (fun j v h=>by omega)
  go_wp2
  go_loopw [3,4,5] (fun s3 s4 s5 wr=>∃i:Nat,s3 = .int .i64 i∧i≤n1∧Hid (VarsOk m i)∧Below W.heap.size W wr) (fun s3 _ _ _=>n1 - (intOf s3).toNat)
  case atStart=>exact⟨0,rfl,Nat.zero_le _,hok0,hself⟩
  case round =>
   clear hok0 hself
   rename World=>V
   obtain⟨i,rfl,hi,hok,hbel⟩:=hrel
   have hVs:=hbel.size
   by_cases hlt:i<n1
   ·have hii : (i : Int) < (n1 : Int) := by omega
    obtain⟨v,hv⟩:=Yf (l:=m.vars) (k:=i) (by rw [←hn1.out];exact hlt)
    obtain⟨b1,o1,hA1,he⟩:=gv.out (by rw [←hn1.out];omega)
    subst hA1
    obtain⟨es,hel,hr,hc⟩:=he i v hv.out
    obtain⟨hes,hvs,hvn⟩:=hr
    subst hes
    obtain⟨r0,r1⟩:=(hc.mono (B':=w.heap.size) (Nat.le_refl _)).two
    have r0:∀w',Below W.heap.size W w'→w'.cell? ⟨b1,o1+i*2,none⟩=some (.string v.name):=fun w' h=>r0 w' (hwX.out w' h)
    have r1:∀w',Below W.heap.size W w'→w'.cell? ⟨b1,o1+i*2+1,none⟩=some (.int .i64 v.size):=fun w' h=>r1 w' (hwX.out w' h)
    have hel:=hide he
    clear he hc hel
    go_wp2_with (fail)
    refine(isword_any v.name _ hvn).mono ?_
    rintro e X ⟨rfl,hbX⟩
    have hk:Below W.heap.size W X:=hbel.trans (hbX.mono hVs)
    cases hwd:wordB v.name with
    | false =>
     have hfx:Hid ((4:Int)=0↔Qm m):=hide ⟨fun h=>by omega,fun h=>by have:=(h.2.1 i v hv.out).1;rw [hwd] at this;cases this⟩
     replace hwd:=hide hwd
     go_wp2_with (fail)
     refine(Zc _ _ _ _ _).mono ?_
     rintro e X9 ⟨rfl,hb9⟩
     have hk9:Below W.heap.size W X9:=hk.trans (hb9.mono hk.size)
     have hR9:X9.heap[R]? = _:=(hk9.block R hRW).trans hR.out
     obtain⟨z0,z1,z2,z3⟩:=Zz hR9
     obtain⟨f0,f1,f2,f3⟩:=Yj hR9
     go_wp2
     refine Yp (c:=4) (k:=(-1)) (b:=0) (i:=0) ?_ (by rfl) hfx.out (Zs (hwX.out X9 hk9) hRw.out)
     obtain⟨y0,y1,y2,y3⟩:=Zq (u0 := .int .i64 (4)) (u1 := .int .i64 (-1)) (u2 := .int .i64 (0)) (u3 := .int .i64 (0)) hR9
     simp [results,Tryz.results45,go_sem,y0,y1,y2,y3]
    | true =>
     have hself:=hk
     go_wp2
     go_loopw [5] (fun s5 wr=>∃k:Nat,s5 = .int .i64 k∧k≤i∧Hid (∀(j:Nat) u,j<k→m.vars[j]? = some u→u.name≠v.name)∧Below W.heap.size W wr) (fun s5 _=>i - (intOf s5).toNat)
     case atStart=>exact⟨0,rfl,Nat.zero_le _,hide (fun j u h=>by omega),hself⟩
     case round =>
      clear hself
      rename World=>Y
      obtain⟨k,rfl,hki,hno,hbY⟩:=hrel
      have hYs:=hbY.size
      by_cases hltk:k<i
      ·have hkk : (k : Int) < (i : Int) := by omega
       have hkn:(k:Int)<(n1:Int):=by omega
       obtain⟨u,hu⟩:=Yf (l:=m.vars) (k:=k) (by rw [←hn1.out];omega)
       obtain⟨b2,o2,hA2,he⟩:=gv.out (by rw [←hn1.out];omega)
       cases hA2
       obtain⟨es,hel,hr,hc⟩:=he k u hu.out
       obtain⟨hes,hus,hun⟩:=hr
       subst hes
       obtain⟨t0, -⟩:=hc.two
       have t0:∀w',Below W.heap.size W w'→w'.cell? ⟨b1,o1+k*2,none⟩=some (.string u.name):=fun w' h=>t0 w' (hwX.out w' h)
       clear he hc hel
       by_cases hq:u.name=v.name
       ·have e0 : (u.name.toList == v.name.toList) = true := by rw [hq]; simp
        have hfx:Hid ((5:Int)=0↔Qm m):=hide ⟨fun h=>by omega,fun h=>absurd hq ((h.2.1 i v hv.out).2.1 k u hltk hu.out)⟩
        replace hq:=hide hq
        go_upto_region 12 with(fail)
        go_quiet (fail)
        have hbZ:Below W.heap.size W _:=Yi hbY nq
        go_wp2_with (fail)
        refine(Zc _ _ _ _ _).mono ?_
        rintro e X9 ⟨rfl,hb9⟩
        have hk9:Below W.heap.size W X9:=hbZ.trans (hb9.mono hbZ.size)
        have hR9:X9.heap[R]? = _:=(hk9.block R hRW).trans hR.out
        obtain⟨z0,z1,z2,z3⟩:=Zz hR9
        obtain⟨f0,f1,f2,f3⟩:=Yj hR9
        go_wp2
        refine Yp (c:=5) (k:=(-1)) (b:=0) (i:=0) ?_ (by rfl) hfx.out (Zs (hwX.out X9 hk9) hRw.out)
        obtain⟨y0,y1,y2,y3⟩:=Zq (u0 := .int .i64 (5)) (u1 := .int .i64 (-1)) (u2 := .int .i64 (0)) (u3 := .int .i64 (0)) hR9
        simp [results,Tryz.results45,go_sem,y0,y1,y2,y3]
       ·have e0 : (u.name.toList == v.name.toList) = false := beq_eq_false_iff_ne.2 (fun h => hq (bytes_same h))
        have hnx:Hid (∀(j:Nat) u,j<k+1→m.vars[j]? = some u→u.name≠v.name):=hide (fun j x hj hx=>by
         rcases Nat.lt_succ_iff_lt_or_eq.1 hj with h|h
         ·exact hno.out j x h hx
         ·subst h
          rw [hu.out] at hx
          cases hx
          exact hq)
        replace hq:=hide hq
        go_upto_region 12 with(fail)
        go_quiet (fail)
        have hbZ:Below W.heap.size W _:=Yi hbY nq
        go_wp2
        go_roundw
        case rel=>exact⟨k+1,by go_num,hltk,hnx,hbZ⟩
        case measure=>simp [intOf];omega
      ·obtain rfl : k = i := by omega
       by_cases hs1:1≤v.size
       ·have d1 : ¬ v.size < 1 := by omega
        by_cases hs2:v.size≤64
        ·have d2 : ¬ v.size > 64 := by omega
         have hnx:Hid (VarsOk m (k+1)):=hide (fun j x hj hx=>by
          rcases Nat.lt_succ_iff_lt_or_eq.1 hj with h|h
          ·exact hok.out j x h hx
          ·subst h
           rw [hv.out] at hx
           cases hx
           exact⟨hwd,fun k u hk hu=>hno.out k u hk hu,hs1,hs2⟩)
         go_wp2
         go_roundw
         case rel=>exact⟨k+1,by go_num,hlt,hnx,hbY⟩
         case measure=>simp [intOf];omega
        ·have d2 : v.size > 64 := by omega
         have hfx:Hid ((6:Int)=0↔Qm m):=hide ⟨fun h=>by omega,fun h=>absurd (h.2.1 k v hv.out).2.2.2 hs2⟩
         go_wp2_with (fail)
         refine(Zc _ _ _ _ _).mono ?_
         rintro e X9 ⟨rfl,hb9⟩
         have hk9:Below W.heap.size W X9:=hbY.trans (hb9.mono hbY.size)
         have hR9:X9.heap[R]? = _:=(hk9.block R hRW).trans hR.out
         obtain⟨z0,z1,z2,z3⟩:=Zz hR9
         obtain⟨f0,f1,f2,f3⟩:=Yj hR9
         go_wp2
         refine Yp (c:=6) (k:=(-1)) (b:=0) (i:=0) ?_ (by rfl) hfx.out (Zs (hwX.out X9 hk9) hRw.out)
         obtain⟨y0,y1,y2,y3⟩:=Zq (u0 := .int .i64 (6)) (u1 := .int .i64 (-1)) (u2 := .int .i64 (0)) (u3 := .int .i64 (0)) hR9
         simp [results,Tryz.results45,go_sem,y0,y1,y2,y3]
       ·have d1 : v.size < 1 := by omega
        have hfx:Hid ((6:Int)=0↔Qm m):=hide ⟨fun h=>by omega,fun h=>absurd (h.2.1 k v hv.out).2.2.1 hs1⟩
        go_wp2_with (fail)
        refine(Zc _ _ _ _ _).mono ?_
        rintro e X9 ⟨rfl,hb9⟩
        have hk9:Below W.heap.size W X9:=hbY.trans (hb9.mono hbY.size)
        have hR9:X9.heap[R]? = _:=(hk9.block R hRW).trans hR.out
        obtain⟨z0,z1,z2,z3⟩:=Zz hR9
        obtain⟨f0,f1,f2,f3⟩:=Yj hR9
        go_wp2
        refine Yp (c:=6) (k:=(-1)) (b:=0) (i:=0) ?_ (by rfl) hfx.out (Zs (hwX.out X9 hk9) hRw.out)
        obtain⟨y0,y1,y2,y3⟩:=Zq (u0 := .int .i64 (6)) (u1 := .int .i64 (-1)) (u2 := .int .i64 (0)) (u3 := .int .i64 (0)) hR9
        simp [results,Tryz.results45,go_sem,y0,y1,y2,y3]
   ·have hva : Hid (VarsOk m n1) := hide (by have e : i = n1 := (by omega); rw [← e]; exact hok.out)
    have hself:=hbel
    obtain⟨nl,hnl⟩:∃nl:List ByteArray,Hid (nl = []):=⟨_,hide rfl⟩
    have hown0:Hid (OwnS V W.heap.size (.slice none 0 0) ((m.exts.take 0).map fun x=>x.name)):=hide OwnS.nil_
    have hex0:Hid (ExtsOk m 0):=hide (fun j x h=>by omega)
    clear hbel hVs hok hnl nl
    go_wp2
    go_loopw [6,7,8,9] (fun s6 s7 s8 s9 wr=>∃(k:Nat) (A:Option Addr) (C:Nat),s6 = .slice A k C∧s7 = .int .i64 k∧k≤n3∧Hid (OwnS wr W.heap.size (.slice A k C) ((m.exts.take k).map fun x=>x.name))∧Hid (ExtsOk m k)∧Below W.heap.size W wr) (fun _ s7 _ _ _=>n3 - (intOf s7).toNat)
    case atStart=>exact⟨0,none,0,rfl,rfl,Nat.zero_le _,hown0,hex0,hself⟩
    case round =>
     clear hown0 hex0 hself
     rename World=>V
     obtain⟨k,A,C,rfl,rfl,hk,hown,hex,hbel⟩:=hrel
     have hVs:=hbel.size
     by_cases hltk:k<n3
     ·have hki : (k : Int) < (n3 : Int) := by omega
      obtain⟨x,hx⟩:=Yf (l:=m.exts) (k:=k) (by rw [←hn3.out];exact hltk)
      obtain⟨b1,o1,hA1,he⟩:=gx.out (by rw [←hn3.out];omega)
      subst hA1
      obtain⟨cp,hra,⟨hxr,hxn⟩,hc⟩:=he k x hx.out
      obtain⟨Ap,Cp,hcp,hmp, -⟩:=Rp.slice1_open hra
      cases hcp
      obtain⟨r0,r1,r2⟩:=hc.three
      have hwV:=hwX.out V hbel
      have r0:=r0 V hwV
      have r1:=r1 V hwV
      have r2:=r2 V hwV
      have hra9:=hide hra
      clear he hc hra
      obtain⟨Z,hZ,hwZ,hZs,hzc⟩:=Y6 V #[.string x.name, .slice Ap x.params.length Cp, .int .i64 x.ret] 77
      have y0:=hzc 0 _ rfl
      have y1:=hzc 1 _ rfl
      have y2:=hzc 2 _ rfl
      have hbZ:Below W.heap.size W Z:=hbel.trans (hwZ.mono hVs)
      have hownZ:=hide (hown.out.kept (w':=Z) fun q _ hq=>hwZ.block q hq)
      have hkl:((m.exts.take k).map fun x=>x.name).length=k:=by rw [List.length_map,List.length_take];have:=hn3.out;omega
      have cH:=head_any x.name ((m.exts.take k).map fun x=>x.name) x.params x.ret 64 (.slice A k C) (.slice Ap x.params.length Cp) Z w.heap.size W.heap.size (hwX.out Z hbZ).size hxn hownZ.out (Z4.below hra9.out (hwX.out Z hbZ)) (by omega)
      replace cH:=hide cH
      have hself:=Below.refl Z.heap.size Z
      refine hd4 hkl hwZ hZs hZ ?_;clear hkl hwZ hZs hZ;intro hkl hwZ hZs hZ
      clear hzc
      go_upto_region 21 with(fail)
      rw [hZ.out]
      clear hZ r0 r1 r2
      go_wp2_with (fail)
      refine cH.out.mono ?_
      rintro e X ⟨c,rfl,hcc,hbX⟩
      have hkX:Below W.heap.size W X:=hbZ.trans (hbX.mono hbZ.size)
      by_cases hc0:c=0
      ·subst hc0
       have hnz:((0:Int) != 0)=false:=rfl
       have hh:=hcc.1 rfl
       have hnx:Hid (ExtsOk m (k+1)):=hide (fun j y hj hy=>by
        rcases Nat.lt_succ_iff_lt_or_eq.1 hj with h|h
        ·exact hex.out j y h hy
        ·subst h
         rw [hx.out] at hy
         cases hy
         exact hh)
       have hrowX:Hid (X.ownsRow W.heap.size 9 1 (.slice A k C) k (((m.exts.take k).map fun x=>x.name).map fun s=>Value.string s)):=hide (by
        have h:=hownZ.out.kept (w':=X) fun q _ hq=>hbX.block q hq
        unfold OwnS at h
        rwa [hkl.out] at h)
       have q0:=y0 X hbX
       have hXs:=hkX.size
       refine hd2 hcc hh ?_;clear hcc hh;intro hcc hh
       clear y0 y1 y2
       go_wp2_with (first
        | (at_builtin
           refine wpList_append_own _ rfl (.tmp 107) (.tmp 110) _ rfl W.heap.size 9 i0 _ 1 16 Tryz.underlying114 hi0.out hz0.out hz1.out hz2.out rfl (by omega) (.slice A k C) _ _ rfl (hrowX.out.alloc _) ⟨X.heap.size,0,none⟩ 1 1 [.string x.name] rfl rfl ?c1 ?c2 ?c3 ?c4 ?c5 ?_
           case c1=>exact World.news_of_block (cs := #[.string x.name]) (t := 9) (fr:=(0,0)) (heap_alloc_new X _)
           case c2=>simp [Value.oneCell']
           case c3=>unfold maxLen;omega
           case c4=>omega
           case c5=>first|(simp;omega)|simp|omega
           intro v1 w1 hown1 hg1 _
           have hbw1:Below W.heap.size W w1:=(hkX.alloc hXs _).grown hg1 (by simp<;>omega) (fun q hq=>(Ya hrowX.out hq).1)
           obtain⟨A8,C8,hv8⟩:=Yd hown1
           subst hv8
           have hL:=hide (names_next hkl.out hx.out hown1)
           replace hown1:=hide hown1
           replace hg1:=hide hg1))
       go_roundw
       case rel=>exact⟨k+1,A8,C8,rfl,by go_num,hltk,hL,hnx,hbw1⟩
       case measure=>simp [intOf];omega
      ·have hnz : (c != 0) = true := by simpa using hc0
       have hfx:Hid (c=0↔Qm m):=hide ⟨fun h=>absurd h hc0,fun h=>hcc.2 (h.2.2.1 k x hx.out)⟩
       refine hd2 hc0 hcc ?_;clear hc0 hcc;intro hc0 hcc
       go_wp2_with (fail)
       refine(Zc _ _ _ _ _).mono ?_
       rintro e X9 ⟨rfl,hb9⟩
       have hk9:Below W.heap.size W X9:=hkX.trans (hb9.mono hkX.size)
       have hR9:X9.heap[R]? = _:=(hk9.block R hRW).trans hR.out
       obtain⟨z0,z1,z2,z3⟩:=Zz hR9
       obtain⟨f0,f1,f2,f3⟩:=Yj hR9
       go_wp2
       refine Yp (c:=c) (k:=(-1)) (b:=0) (i:=0) ?_ (by rfl) hfx.out (Zs (hwX.out X9 hk9) hRw.out)
       obtain⟨y0,y1,y2,y3⟩:=Zq (u0 := .int .i64 (c)) (u1 := .int .i64 (-1)) (u2 := .int .i64 (0)) (u3 := .int .i64 (0)) hR9
       simp [results,Tryz.results45,go_sem,y0,y1,y2,y3]
     ·have hea:Hid (ExtsOk m n3):=hide (by
       have e:k=n3:=by omega
       rw [←e];exact hex.out)
      have hownA:Hid (OwnS V W.heap.size (.slice A k C) ((m.exts.map fun x=>x.name)++(m.funcs.take 0).map fun f=>f.name)):=hide (by
       have h:=hown.out
       rw [List.take_of_length_le (by rw [←hn3.out];omega)] at h
       rw [List.take_zero,List.map_nil,List.append_nil]
       exact h)
      obtain rfl:k=n3:=by omega
      have hself:=hbel
      have hfu0:Hid (FunsOk8 m 0):=hide (fun j x h=>by omega)
      clear hbel hVs hown hex
      have hadd0:Hid (k=k+0):=hide rfl
      go_wp2
      go_loopw [6,10,11,12] (fun s6 s10 s11 s12 wr=>∃(i:Nat) (A:Option Addr) (C:Nat),s6 = .slice A (k+i) C∧s10 = .int .i64 i∧i≤n5∧Hid (OwnS wr W.heap.size (.slice A (k+i) C) ((m.exts.map fun x=>x.name)++(m.funcs.take i).map fun f=>f.name))∧Hid (FunsOk8 m i)∧Below W.heap.size W wr) (fun _ s10 _ _ _=>n5 - (intOf s10).toNat)
      case atStart=>exact⟨0,A,C,rfl,rfl,Nat.zero_le _,hownA,hfu0,hself⟩
      case round =>
       clear hownA hfu0 hself
       rename World=>V
       obtain⟨i,A,C,rfl,rfl,hi,hown,hfu,hbel⟩:=hrel
       have hVs:=hbel.size
       by_cases hlti:i<n5
       ·have hii : (i : Int) < (n5 : Int) := by omega
        obtain⟨x,hx⟩:=Yf (l:=m.funcs) (k:=i) (by rw [←hn5.out];exact hlti)
        obtain⟨b1,o1,hA1,he⟩:=gf.out (by rw [←hn5.out];omega)
        subst hA1
        obtain⟨cp,ep,hra,hc⟩:=he i x hx.out
        obtain⟨hrp, -⟩:=Yk hra
        have hxn:x.name.size≤maxLen:=by
         obtain⟨_,_,h,_,_,_,hnm⟩:=hra
         exact hnm
        obtain⟨Ap,Cp,hcp,hmp, -⟩:=Rp.slice1_open hrp
        cases hcp
        obtain⟨Ae,Ce,hce⟩:∃A C,ep = .slice A x.blocks.length C:=by
         obtain⟨_,h9⟩:=Yk hra
         obtain⟨A,C,h, -⟩:=Rp.slice1_open h9
         cases h
         exact⟨A,C,rfl⟩
        subst hce
        obtain⟨r0,r1,r2,r3⟩:=hc.four
        have hwV:=hwX.out V hbel
        have r0:=r0 V hwV
        have r1:=r1 V hwV
        have r2:=r2 V hwV
        have r3:=r3 V hwV
        have hra9:=hide hrp
        clear he hc hra hrp
        obtain⟨Z,hZ,hwZ,hZs,hzc⟩:=Y6 V #[.string x.name, .slice Ap x.params.length Cp, .int .i64 x.ret, .slice Ae x.blocks.length Ce] 32
        have y0:=hzc 0 _ rfl
        have y1:=hzc 1 _ rfl
        have y2:=hzc 2 _ rfl
        have hbZ:Below W.heap.size W Z:=hbel.trans (hwZ.mono hVs)
        have hownZ:=hide (hown.out.kept (w':=Z) fun q _ hq=>hwZ.block q hq)
        have hkl:((m.exts.map fun x=>x.name)++(m.funcs.take i).map fun f=>f.name).length=k+i:=by rw [List.length_append,List.length_map,List.length_map,List.length_take];have:=hn3.out;have:=hn5.out;omega
        have cH:=head_any x.name ((m.exts.map fun x=>x.name)++(m.funcs.take i).map fun f=>f.name) x.params x.ret 65 (.slice A (k+i) C) (.slice Ap x.params.length Cp) Z w.heap.size W.heap.size (hwX.out Z hbZ).size hxn hownZ.out (Z4.below hra9.out (hwX.out Z hbZ)) (by omega)
        replace cH:=hide cH
        have hself:=Below.refl Z.heap.size Z
        refine hd4 hkl hwZ hZs hZ ?_;clear hkl hwZ hZs hZ;intro hkl hwZ hZs hZ
        clear hzc
        go_upto_region 29 with(fail)
        rw [hZ.out]
        clear hZ r0 r1 r2 r3
        go_wp2_with (fail)
        refine cH.out.mono ?_
        rintro e X ⟨c,rfl,hcc,hbX⟩
        have hkX:Below W.heap.size W X:=hbZ.trans (hbX.mono hbZ.size)
        by_cases hc0:c=0
        ·subst hc0
         have hnz:((0:Int) != 0)=false:=rfl
         have hh:=hcc.1 rfl
         have hnx:Hid (FunsOk8 m (i+1)):=hide (fun j y hj hy=>by
          rcases Nat.lt_succ_iff_lt_or_eq.1 hj with h|h
          ·exact hfu.out j y h hy
          ·subst h
           rw [hx.out] at hy
           cases hy
           exact hh)
         have hrowX:Hid (X.ownsRow W.heap.size 9 1 (.slice A (k+i) C) (k+i) (((m.exts.map fun x=>x.name)++(m.funcs.take i).map fun f=>f.name).map fun s=>Value.string s)):=hide (by
          have h:=hownZ.out.kept (w':=X) fun q _ hq=>hbX.block q hq
          unfold OwnS at h
          rwa [hkl.out] at h)
         have q0:=y0 X hbX
         have hXs:=hkX.size
         refine hd2 hcc hh ?_;clear hcc hh;intro hcc hh
         clear y0 y1 y2
         go_wp2_with (first
          | (at_builtin
             refine wpList_append_own _ rfl (.tmp 137) (.tmp 140) _ rfl W.heap.size 9 i0 _ 1 16 Tryz.underlying114 hi0.out hz0.out hz1.out hz2.out rfl (by omega) (.slice A (k+i) C) _ _ rfl (hrowX.out.alloc _) ⟨X.heap.size,0,none⟩ 1 1 [.string x.name] rfl rfl ?c1 ?c2 ?c3 ?c4 ?c5 ?_
             case c1=>exact World.news_of_block (cs := #[.string x.name]) (t := 9) (fr:=(0,0)) (heap_alloc_new X _)
             case c2=>simp [Value.oneCell']
             case c3=>unfold maxLen;omega
             case c4=>omega
             case c5=>first|(simp;omega)|simp|omega
             intro v1 w1 hown1 hg1 _
             have hbw1:Below W.heap.size W w1:=(hkX.alloc hXs _).grown hg1 (by simp<;>omega) (fun q hq=>(Ya hrowX.out hq).1)
             obtain⟨A8,C8,hv8⟩:=Yd hown1
             subst hv8
             have hL:=hide (names_more hkl.out hx.out hown1)
             replace hown1:=hide hown1
             replace hg1:=hide hg1))
         go_roundw
         case rel=>exact⟨i+1,A8,C8,rfl,by go_num,hlti,hL,hnx,hbw1⟩
         case measure=>simp [intOf];omega
        ·have hnz : (c != 0) = true := by simpa using hc0
         have hfx:Hid (c=0↔Qm m):=hide ⟨fun h=>absurd h hc0,fun h=>hcc.2 (h.2.2.2 i x hx.out)⟩
         refine hd2 hc0 hcc ?_;clear hc0 hcc;intro hc0 hcc
         go_wp2_with (fail)
         refine(Zc _ _ _ _ _).mono ?_
         rintro e X9 ⟨rfl,hb9⟩
         have hk9:Below W.heap.size W X9:=hkX.trans (hb9.mono hkX.size)
         have hR9:X9.heap[R]? = _:=(hk9.block R hRW).trans hR.out
         obtain⟨z0,z1,z2,z3⟩:=Zz hR9
         obtain⟨f0,f1,f2,f3⟩:=Yj hR9
         go_wp2
         refine Yp (c:=c) (k:=(i)) (b:=0) (i:=0) ?_ (by rfl) hfx.out (Zs (hwX.out X9 hk9) hRw.out)
         obtain⟨y0,y1,y2,y3⟩:=Zq (u0 := .int .i64 (c)) (u1 := .int .i64 (i)) (u2 := .int .i64 (0)) (u3 := .int .i64 (0)) hR9
         simp [results,Tryz.results45,go_sem,y0,y1,y2,y3]
       ·have hfx : Hid (Qm m) := hide ⟨by rw [← hn1.out, ← hn3.out, ← hn5.out]; exact ⟨l1, l3, l5⟩, fun j v hv => hva.out j v (by rw [hn1.out]; exact (Js.1 hv).1) hv, fun j x hx => hea.out j x (by rw [hn3.out]; exact (Js.1 hx).1) hx, fun j f hf => hfu.out j f (by have := (Js.1 hf).1; have := hn5.out; omega) hf⟩
        have hR9:V.heap[R]? = _:=(hbel.block R hRW).trans hR.out
        obtain⟨z0,z1,z2,z3⟩:=Zz hR9
        obtain⟨f0,f1,f2,f3⟩:=Yj hR9
        go_wp2
        refine Yp (c:=0) (k:=(0)) (b:=0) (i:=0) ?_ (by rfl) ⟨fun _=>hfx.out,fun _=>rfl⟩ (Zs (hwX.out V hbel) hRw.out)
        obtain⟨y0,y1,y2,y3⟩:=Zq (u0 := .int .i64 (0)) (u1 := .int .i64 (0)) (u2 := .int .i64 (0)) (u3 := .int .i64 (0)) hR9
        simp [results,Tryz.results45,go_sem,y0,y1,y2,y3]
theorem sum_mem {α : Type} (μ : α → Nat) : ∀ (l : List α) (x : α), x ∈ l → μ x ≤ (l.map μ).sum
 | y :: l,x,h=>by
  rw [List.map_cons,List.sum_cons]
  rcases List.mem_cons.1 h with rfl|h
  ·omega
  ·have := sum_mem μ l x h
   omega
theorem sum_len {α : Type} (μ : α → Nat) (h1 : ∀ x, 1 ≤ μ x) : ∀ l : List α, l.length ≤ (l.map μ).sum
 | []=>Nat.zero_le _
 | y :: l=>by
  rw [List.map_cons,List.sum_cons,List.length_cons]
  have:=sum_len μ h1 l
  have:=h1 y
  omega
theorem Ybu {f:Fun} (h:Ybo f≤2000000):Zo f:=by
 unfold Ybo blksSz at h
 refine⟨by omega,?_,fun x hx => ?_⟩
 ·have := sum_len blkSz (fun x => by unfold blkSz; omega) f.blocks
  omega
 ·have h1 := sum_mem blkSz f.blocks x hx
  have h2:x.length≤(x.map insSz).sum:=sum_len insSz (fun x=>by unfold insSz;omega) x
  have h3:blkSz x=(x.map insSz).sum+1:=rfl
  refine⟨by omega,fun i hi => ?_⟩
  have h4:=sum_mem insSz x i hi
  have h5:insSz i=1+i.args.length+i.to.length:=rfl
  omega
end Go.Proofs.YtamjcafjdioidaaGreat
