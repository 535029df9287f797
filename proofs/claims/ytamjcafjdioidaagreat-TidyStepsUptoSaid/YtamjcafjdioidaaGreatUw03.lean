/- Texts of the chain, without what is not wanted: IrW, IrX, Hm. No condition but sizes. -/
import Derived.Deep.DeepCutAuto
import Derived.Deep.CutBlock
import Derived.StillTailTactics
import Derived.Test.YtamjcafjdioidaaGreatUw02
set_option linter.unusedVariables false
set_option linter.unusedSimpArgs false
set_option maxRecDepth 100000
set_option maxHeartbeats 12800000
namespace Go.Proofs.YtamjcafjdioidaaGreat
structure Plc where
 fn:Int
 blk:Int
 pos:Int
 deriving DecidableEq,Inhabited
def rowP (i n:Nat):List Plc:=(List.range n).map fun(j:Nat)=>⟨0,(i:Int),(j:Int)⟩
def Yl (bs:List (List Ins)) (i j:Nat):List Plc:=((List.range i).flatMap fun k=>rowP k (bs.getD k []).length)++rowP i j
theorem beforeP_step (bs:List (List Ins)) (i j:Nat):Yl bs i (j+1)=Yl bs i j ++ [⟨0,i,j⟩]:=by
 unfold Yl rowP
 rw [List.range_succ,List.map_append,List.append_assoc]
 rfl
theorem beforeP_next {bs:List (List Ins)} {i:Nat} {x:List Ins} (hx:bs[i]? = some x):Yl bs i x.length=Yl bs (i+1) 0:=by
 unfold Yl
 rw [List.range_succ,List.flatMap_append,getD_nil hx |>.symm]
 simp [rowP]
theorem Zk {bs : List (List Ins)} : ∀ (i j : Nat), (j = 0 ∨ ∃ x, bs[i]? = some x ∧ j ≤ x.length) → i ≤ bs.length → (Yl bs i j).length = (Y9 bs i j).length
 | 0,j,hj,_=>by
  rcases hj with rfl|⟨x,hx,hj⟩
  ·rfl
  ·unfold Y9
   rw [getD_nil hx]
   simp [Yl,rowP]
   omega
 | i+1,j,hj,hi=>by
  obtain⟨y,hy⟩:∃y,bs[i]? = some y:=⟨_,Jg (by omega)⟩
  have h0:=Zk i y.length (.inr ⟨y,hy,Nat.le_refl _⟩) (by omega)
  rw [beforeP_next hy,before_next hy] at h0
  rcases hj with rfl|⟨x,hx,hj⟩
  ·exact h0
  ·have e1 : (Yl bs (i + 1) j).length = (Yl bs (i + 1) 0).length + j := by simp [Yl, rowP]
   have e2:(Y9 bs (i+1) j).length=(Y9 bs (i+1) 0).length+j:=by
    unfold Y9
    rw [getD_nil hx]
    simp only [List.length_append,List.take_zero,List.length_nil,Nat.add_zero,List.length_take]
    omega
   rw [e1,e2,h0]
open Go.RowKit
def RPlc:Rp Plc := .plain (fun x => [.int .i64 x.fn, .int .i64 x.blk, .int .i64 x.pos]) fun _=>True
theorem info_Instr:(Tryz.prog.info? 44).map (fun i=>(i.zero,i.size,i.bytes))=some (some (.agg #[.int .i64 0, .int .i64 0, .int .i64 0, .int .i64 0, .int .i64 0, .slice none 0 0, .slice none 0 0]),7,88):=by kernel_rfl
theorem info_Place:(Tryz.prog.info? 48).map (fun i=>(i.zero,i.size,i.bytes))=some (some (.agg #[.int .i64 0, .int .i64 0, .int .i64 0]),3,24):=by kernel_rfl
def CodePost (f:Fun) (w:World) (e:Ending) (w':World):Prop :=
 ∃v1 v2,e = .returned (.tuple #[v1,v2])∧Below w.heap.size w w'∧RBlk.rep w' w'.heap.size [v1] f.blocks.flatten∧(Rp.slice 3 RPlc).rep w' w'.heap.size [v2] (Yl f.blocks f.blocks.length 0)
theorem Yb1 (f : Fun) (c1 c2 : Value) (w : World) (B : Nat) (hB : B ≤ w.heap.size) (hp : Z4.rep w B [c1] f.params) (hb : RBlks.rep w B [c2] f.blocks) (hsz : f.blocks.flatten.length ≤ 1000000000000) :
  Calls Tryz.prog 68 #[f.v c1 c2] w (CodePost f w):=by
 obtain⟨A1,k1,h1,hm1, -⟩:=Rp.slice1_at hp
 obtain⟨A2,k2,h2,hm2,gb⟩:=Rp.slice1_at (RBlks.later hb (Below.refl _ _) hB)
 cases h1;cases h2
 replace gb:=hide gb
 clear hp hb
 obtain⟨i0,hi0,hz0,hz1,hz2⟩:=info_parts info_Instr
 obtain⟨j0,hj0,hy0,hy1,hy2⟩:=info_parts info_Place
 refine hd8 hi0 hz0 hz1 hz2 hj0 hy0 hy1 hy2 ?_;clear hi0 hz0 hz1 hz2 hj0 hy0 hy1 hy2;intro hi0 hz0 hz1 hz2 hj0 hy0 hy1 hy2
 obtain⟨W,hW,hwW,hWs,hx⟩:=Y6 w #[.string f.name, .slice A1 f.params.length k1, .int .i64 f.ret, .slice A2 f.blocks.length k2] 32
 have x3:=hx 3 _ rfl
 clear hx
 have hws:w.heap.size≤W.heap.size:=by omega
 replace hWs:=hide hWs
 go_enter Tryz.func68,Tryz.ntmps68
 go_wp2
 clear hW
 go_loopw [4,5,6] (fun l p i wr=>∃k:Nat,k≤f.blocks.length∧i = .int .i64 k∧Hid (Own RIns 7 44 wr W.heap.size w.heap.size l (Y9 f.blocks k 0))∧Hid (Own RPlc 3 48 wr W.heap.size w.heap.size p (Yl f.blocks k 0))∧Below W.heap.size W wr) (fun _ _ i _=>f.blocks.length - (intOf i).toNat)
 case atStart=>exact⟨0,Nat.zero_le _,rfl,hide (by rw [before_zero];exact Own.nil_),hide Own.nil_,Below.refl _ _⟩
 case round =>
  rename_i l p
  obtain⟨k,hk,rfl,hl,hpp,hbel⟩:=hrel
  by_cases hlt:k<f.blocks.length
  ·obtain ⟨b1, o1, rfl, hb1, he1⟩ := gb.out (by omega)
   obtain⟨x,hx⟩:=Yf hlt
   obtain⟨d1,hr1,hd1⟩:=he1 k x hx.out
   obtain⟨A3,c3,h3,hm3,ga3⟩:=Rp.slice_at hr1
   cases h3
   replace ga3:=hide ga3
   have hd1':∀w',Below W.heap.size W w'→w'.cell? ⟨b1,o1+k,none⟩=some (.slice A3 x.length c3):=fun w' h=>((hwW.trans (h.mono hws)).cell (p:=⟨b1,o1+k,none⟩) hb1).trans hd1
   clear hd1 hr1 he1
   go_wp2
   go_loopw [4,5,7] (fun l p i wr=>∃m:Nat,m≤x.length∧i = .int .i64 m∧Hid (Own RIns 7 44 wr W.heap.size w.heap.size l (Y9 f.blocks k m))∧Hid (Own RPlc 3 48 wr W.heap.size w.heap.size p (Yl f.blocks k m))∧Below W.heap.size W wr) (fun _ _ i _=>x.length - (intOf i).toNat)
   case atStart=>exact⟨0,Nat.zero_le _,rfl,hl,hpp,hbel⟩
   case round =>
    clear hl hpp hbel
    rename_i l p
    obtain⟨m,hm,rfl,hl,hpp,hbel⟩:=hrel
    by_cases hlt2:m<x.length
    ·obtain ⟨b3, o3, rfl, hb3, he3⟩ := ga3.out (by omega)
     obtain⟨ins,hins⟩:=Yf hlt2
     obtain⟨_,_,⟨a1,a2,rfl,ha,hto,hwf⟩,hat⟩:=he3 m ins hins.out
     have hri:Hid (RIns.rep w w.heap.size [.int .i64 ins.op, .int .i64 ins.reg, .int .i64 ins.ty, .int .i64 ins.num, .int .i64 ins.flags,a1,a2] ins):=hide ⟨a1,a2,rfl,ha,hto,hwf⟩
     obtain⟨A5,k5,h5, -, -⟩:=Rp.slice_at ha
     obtain⟨A6,k6,h6, -, -⟩:=Rp.slice1_at hto
     cases h5;cases h6
     have hc:Yb6 W W.heap.size b3 (o3+m*7) _:=fun j u hu w' hw=>((hwW.trans (hw.mono hws)).cell (p:=⟨b3,o3+m*7+j,none⟩) hb3).trans (hat j u hu)
     obtain⟨q0,q1,q2,q3,q4,q5,q6⟩:=hc.seven
     clear he3 hat hc ha hto hwf
     have hlen:(Y9 f.blocks k m).length≤1000000000000:=by
      obtain⟨r,hr⟩ := @before_prefix f.blocks k m
      rw [←hr,List.length_append] at hsz
      omega
     have hlenP:Hid ((Yl f.blocks k m).length=(Y9 f.blocks k m).length):=hide (Zk k m (.inr ⟨x,hx.out,hm⟩) hk)
     have hlenP2:(Yl f.blocks k m).length≤1000000000000:=by rw [hlenP.out];exact hlen
     obtain⟨ess,hel,hown,hrep⟩:=hl.out
     obtain⟨esp,hep,hownp,hrepp⟩:=hpp.out
     have hne:=own_ne hownp hown (by decide)
     have hne':=own_ne hown hownp (by decide)
     have hl0:=hown.lt
     have hp0:=hownp.lt
     refine hd10 hel hrep hown hep hrepp hownp hne hne' hl0 hp0 ?_;clear hel hrep hown hep hrepp hownp hne hne' hl0 hp0;intro hel hrep hown hep hrepp hownp hne hne' hl0 hp0
     have hbs:=hbel.size
     go_wp2_with (first
      | (at_builtin
         refine wpList_append_own _ rfl (.tmp 26) (.tmp 36) _ rfl W.heap.size 44 i0 _ 7 88 Tryz.underlying39 hi0.out hz0.out hz1.out hz2.out rfl (by omega) u4 _ _ rfl (hown.out.alloc _) ⟨wr.heap.size,0,none⟩ 1 1 [.int .i64 ins.op, .int .i64 ins.reg, .int .i64 ins.ty, .int .i64 ins.num, .int .i64 ins.flags, .slice A5 ins.args.length k5, .slice A6 ins.to.length k6] rfl rfl ?c1 ?c2 ?c3 ?c4 ?c5 ?_
         case c1=>exact World.news_of_block (cs := #[.int .i64 ins.op, .int .i64 ins.reg, .int .i64 ins.ty, .int .i64 ins.num, .int .i64 ins.flags, .slice A5 ins.args.length k5, .slice A6 ins.to.length k6]) (t := 44) (fr:=(0,0)) (heap_alloc_new wr _)
         case c2=>simp [Value.oneCell']
         case c3=>unfold maxLen;omega
         case c4=>omega
         case c5=>simp;omega
         intro v1 w1 hown1 hg1 _
         have hbw1:Below W.heap.size W w1:=(hbel.alloc hbs _).grown hg1 (by simp;omega) (fun k hk=>(hl0.out k hk).1)
         have hL:=hide (Own.snoc (R:=RIns) (n:=7) (y:=ins) hel.out (fun i es y h1 h2=>⟨(hrep.out i es y h1 h2).1,RIns.keep (hrep.out i es y h1 h2).2 (fun p hp=>World.cell?_alloc_lt wr _ p (by omega)) (Nat.le_refl _)⟩) hown1 hg1 (fun k hk=>by have:=(hl0.out k hk).1;omega) (by simp;omega) rfl (RIns.later hri.out (hwW.trans ((hbel.alloc hbs _).mono hws)) (Nat.le_refl _)))
         have hP1:=hide ((Own.alloc hpp.out (by omega) _).kept hg1 hne.out (by simp;omega) (fun k hk=>by have:=(hl0.out k hk).1;omega))
         have hbs1:=hbw1.size
         obtain⟨esp1,hep1,hownp1,hrepp1⟩:=hP1.out
         have hp1:=hide hownp1.lt
         have hnl:=hide (own_ne hown1 hownp1 (by decide))
         refine hd4 hep1 hrepp1 hownp1 hown1 ?_;clear hep1 hrepp1 hownp1 hown1;intro hep1 hrepp1 hownp1 hown1
         replace hg1:=hide hg1)
      | (at_builtin
         refine wpList_append_own _ rfl (.tmp 38) (.tmp 42) _ rfl W.heap.size 48 j0 _ 3 24 Tryz.underlying96 hj0.out hy0.out hy1.out hy2.out rfl (by omega) u5 _ _ rfl (hownp1.out.alloc _) ⟨w1.heap.size,0,none⟩ 1 1 [.int .i64 0, .int .i64 k, .int .i64 m] rfl rfl ?d1 ?d2 ?d3 ?d4 ?d5 ?_
         case d1=>exact World.news_of_block (cs := #[.int .i64 0, .int .i64 k, .int .i64 m]) (t := 48) (fr:=(0,0)) (heap_alloc_new w1 _)
         case d2=>simp [Value.oneCell']
         case d3=>unfold maxLen;omega
         case d4=>omega
         case d5=>simp;omega
         intro v2 w2 hown2 hg2 _
         have hbw2:Below W.heap.size W w2:=(hbw1.alloc hbs1 _).grown hg2 (by simp;omega) (fun k hk=>(hp1.out k hk).1)
         have hP2:=hide (Own.snoc (R:=RPlc) (n:=3) (y:=⟨0,k,m⟩) hep1.out (fun i es y h1 h2=>⟨(hrepp1.out i es y h1 h2).1,RPlc.keep (hrepp1.out i es y h1 h2).2 (fun p hp=>World.cell?_alloc_lt w1 _ p (by omega)) (Nat.le_refl _)⟩) hown2 hg2 (fun k hk=>by have:=(hp1.out k hk).1;omega) (by simp;omega) rfl ⟨rfl,trivial⟩)
         have hL2:=hide ((Own.alloc hL.out (by omega) _).kept hg2 hnl.out (by simp;omega) (fun k hk=>by have:=(hp1.out k hk).1;omega))
         replace hown2:=hide hown2
         replace hg2:=hide hg2))
     go_roundw
     case rel=>exact⟨m+1,hlt2,by go_num,hide (by rw [before_step hx.out hins.out];exact hL2.out),hide (by rw [beforeP_step];exact hP2.out),hbw2⟩
     case measure=>simp [intOf];omega
    ·have hlast : Hid (m = x.length) := hide (by omega)
     go_wp2
     go_roundw
     case rel=>exact⟨k+1,hlt,by go_num,hide (by rw [←before_next hx.out,←hlast.out];exact hl.out),hide (by rw [←beforeP_next hx.out,←hlast.out];exact hpp.out),hbel⟩
     case measure=>simp [intOf];omega
  ·have hlast : Hid (k = f.blocks.length) := hide (by omega)
   have hbs:=hbel.size
   go_wp2
   go_ret2
   refine⟨_,_,rfl,hwW.trans (hbel.mono hws),?_,?_⟩
   ·have := (hl.out).rep (by omega)
    rw [hlast.out,Z3] at this
    exact this
   ·have := (hpp.out).rep (by omega)
    rw [hlast.out] at this
    exact this
theorem ins_open {w:World} {B:Nat} {x:Ins} {c d:Value} (h:RIns.rep w B [.int .i64 x.op, .int .i64 x.reg, .int .i64 x.ty, .int .i64 x.num, .int .i64 x.flags,c,d] x):ROpds.rep w B [c] x.args∧Z4.rep w B [d] x.to:=by
 obtain⟨c',d',e,ha,hto,_⟩:=h
 cases e
 exact⟨ha,hto⟩
theorem take_next {a b:List Int} {k:Nat} {x:Int} (h:a.take k=b.take k) (ha:a[k]? = some x) (hb:b[k]? = some x):a.take (k+1)=b.take (k+1):=by
 rw [Zl ha,Zl hb,h]
theorem ints_ne {a b:List Int} {k:Nat} {x y:Int} (h:x≠y) (ha:a[k]? = some x) (hb:b[k]? = some y):(a==b)=false:=by
 rw [beq_eq_false_iff_ne]
 rintro rfl
 rw [ha] at hb
 exact h (Option.some.inj hb)
theorem ints_full {a b:List Int} {k:Nat} (hl:a.length=b.length) (hk:a.length≤k) (h:a.take k=b.take k):(a==b)=true:=by
 rw [beq_iff_eq]
 rwa [List.take_of_length_le hk,List.take_of_length_le (hl▸hk)] at h
theorem rints_any (u v : Value) (a b : List Int) (w : World) (B : Nat) (hB : B ≤ w.heap.size) (ha : Z4.rep w B [u] a) (hb : Z4.rep w B [v] b) :
  Calls Tryz.prog 33 #[u,v] w fun e w'=>e = .returned (.bool (a==b))∧Below w.heap.size w w':=by
 obtain⟨A1,c1,h1,hm1,ga⟩:=Rp.slice1_open (Z4.later ha (Below.refl _ _) hB)
 obtain⟨A2,c2,h2,hm2,gb⟩:=Rp.slice1_open (Z4.later hb (Below.refl _ _) hB)
 clear ha hb
 cases h1;cases h2
 refine hd2 ga gb ?_;clear ga gb;intro ga gb
 have hww:=Nat.le_refl w.heap.size
 have hself:=Below.refl w.heap.size w
 by_cases hl:a.length=b.length
 case neg =>
  go_enter Tryz.func33,Tryz.ntmps33
  have hne:((a.length:Int)==(b.length:Int))=false:=by rw [beq_eq_false_iff_ne];omega
  go_wp2
  go_ret
  exact⟨Z6 (by symm;rw [beq_eq_false_iff_ne];rintro rfl;exact hl rfl),hself⟩
 have heq:((a.length:Int)==(b.length:Int))=true:=by rw [beq_iff_eq];omega
 go_enter Tryz.func33,Tryz.ntmps33
 go_wp2
 clear heq
 replace hl:=hide hl
 go_loopw [5] (fun i wr=>∃k:Nat,k≤a.length∧i = .int .i64 k∧Hid (a.take k=b.take k)∧Below w.heap.size w wr) (fun i _=>a.length - (intOf i).toNat)
 case atStart=>exact⟨0,Nat.zero_le _,rfl,hide rfl,hself⟩
 case round =>
  obtain⟨k,hk,rfl,hall,hbel⟩:=hrel
  by_cases hlt:k<a.length
  ·have hlt2 : k < b.length := by have := hl.out; omega
   obtain⟨b1,o1,rfl,he1⟩:=ga.out (by omega)
   obtain⟨b2,o2,rfl,he2⟩:=gb.out (by omega)
   obtain⟨x,hx⟩:=Yf hlt
   obtain⟨y,hy⟩:=Yf hlt2
   obtain⟨_,⟨hr1,_⟩,p0⟩:=he1 k x hx.out
   obtain⟨_,⟨hr2,_⟩,q0⟩:=he2 k y hy.out
   cases hr1;cases hr2
   clear he1 he2
   cases hxy:(x==y) with
   | false =>
    go_wp2
    go_quiet (fail)
    go_wp2
    go_ret
    exact⟨Z6 (ints_ne (by simpa using hxy) hx.out hy.out).symm,hbel.trans (Yi (Below.refl _ _) _)⟩
   | true =>
    go_wp2
    go_quiet (fail)
    go_wp2
    go_roundw
    case rel =>
     cases eq_of_beq hxy
     exact⟨k+1,hlt,by go_num,hide (take_next hall.out hx.out hy.out),hbel.trans (Yi (Below.refl _ _) _)⟩
    case measure=>simp [intOf];omega
  ·go_wp2
   go_ret
   exact⟨Z6 (ints_full hl.out (by omega) hall.out).symm,hbel⟩
theorem otake_next {a b:List Opd} {k:Nat} {x:Opd} (h:a.take k=b.take k) (ha:a[k]? = some x) (hb:b[k]? = some x):a.take (k+1)=b.take (k+1):=by
 rw [Zl ha,Zl hb,h]
theorem opds_ne {a b:List Opd} {k:Nat} {x y:Opd} (h:x≠y) (ha:a[k]? = some x) (hb:b[k]? = some y):a≠b:=by
 rintro rfl
 rw [ha] at hb
 exact h (Option.some.inj hb)
theorem opds_full {a b:List Opd} {k:Nat} (hl:a.length=b.length) (hk:a.length≤k) (h:a.take k=b.take k):a=b:=by
 rwa [List.take_of_length_le hk,List.take_of_length_le (hl▸hk)] at h
theorem dec_no {p:Prop} [Decidable p] (h:¬p):false=decide p:=by simp [h]
theorem ins_same {a b:Ins} (h1:a.op=b.op) (h2:a.reg=b.reg) (h3:a.ty=b.ty) (h4:a.num=b.num) (h5:a.flags=b.flags) (h6:a.args=b.args):(a.to==b.to)=decide (a=b):=by
 cases a;cases b
 simp only at h1 h2 h3 h4 h5 h6
 subst h1 h2 h3 h4 h5 h6
 rw [Bool.eq_iff_iff]
 simp
theorem instrs_any (a b : Ins) (ca da cb db : Value) (w : World) (B : Nat) (hB : B ≤ w.heap.size)
  (ha:RIns.rep w B [.int .i64 a.op, .int .i64 a.reg, .int .i64 a.ty, .int .i64 a.num, .int .i64 a.flags,ca,da] a)
  (hb:RIns.rep w B [.int .i64 b.op, .int .i64 b.reg, .int .i64 b.ty, .int .i64 b.num, .int .i64 b.flags,cb,db] b) :
  Calls Tryz.prog 34 #[a.v ca da,b.v cb db] w fun e w'=>e = .returned (.bool (decide (a=b)))∧Below w.heap.size w w':=by
 obtain⟨ha1,ha2⟩:=ins_open (RIns.later ha (Below.refl _ _) hB)
 obtain⟨hb1,hb2⟩:=ins_open (RIns.later hb (Below.refl _ _) hB)
 obtain⟨A1,k1,h1,hm1,ga⟩:=Rp.slice_open ha1
 obtain⟨A2,k2,h2,hm2,gb⟩:=Rp.slice_open hb1
 obtain⟨A3,k3,h3,hm3, -⟩:=Rp.slice1_open ha2
 obtain⟨A4,k4,h4,hm4, -⟩:=Rp.slice1_open hb2
 cases h1;cases h2;cases h3;cases h4
 refine hd4 ga gb ha2 hb2 ?_;clear ga gb ha2 hb2;intro ga gb ha2 hb2
 clear ha hb ha1 hb1
 obtain ⟨W, hW, hwW, hWs, hx, hy⟩ := Ql w #[.int .i64 a.op, .int .i64 a.reg, .int .i64 a.ty, .int .i64 a.num, .int .i64 a.flags, .slice A1 a.args.length k1, .slice A3 a.to.length k3]
  #[.int .i64 b.op, .int .i64 b.reg, .int .i64 b.ty, .int .i64 b.num, .int .i64 b.flags, .slice A2 b.args.length k2, .slice A4 b.to.length k4] 44 44
 have x0:=hx 0 _ rfl
 have x1:=hx 1 _ rfl
 have x2:=hx 2 _ rfl
 have x3:=hx 3 _ rfl
 have x4:=hx 4 _ rfl
 have x5:=hx 5 _ rfl
 have x6:=hx 6 _ rfl
 have y0:=hy 0 _ rfl
 have y1:=hy 1 _ rfl
 have y2:=hy 2 _ rfl
 have y3:=hy 3 _ rfl
 have y4:=hy 4 _ rfl
 have y5:=hy 5 _ rfl
 have y6:=hy 6 _ rfl
 clear hx hy
 have hws:w.heap.size≤W.heap.size:=by omega
 have hww:=Nat.le_refl W.heap.size
 replace hWs:=hide hWs
 have hself:=Below.refl W.heap.size W
 go_enter Tryz.func34,Tryz.ntmps34
 go_wp2
 any_goals
  go_ret
  rename_i hn
  exact⟨Z6 (dec_no fun h=>by first|exact hn (by rw [h])|(rw [h] at hn;simp at hn)),hwW⟩
 rename_i e0 e1 e2 e3 e4 e5 _ _
 clear hW
 have hl:Hid (a.args.length=b.args.length):=hide (by have e6:=bne_eq_false_iff_eq.mp e5;omega)
 refine hd5 e0 e1 e2 e3 e4 ?_;clear e0 e1 e2 e3 e4;intro e0 e1 e2 e3 e4
 clear e5
 go_loopw [5] (fun i wr=>∃k:Nat,k≤a.args.length∧i = .int .i64 k∧Hid (a.args.take k=b.args.take k)∧Below W.heap.size W wr) (fun i _=>a.args.length - (intOf i).toNat)
 case atStart=>exact⟨0,Nat.zero_le _,rfl,hide rfl,hself⟩
 case round =>
  obtain⟨k,hk,rfl,hall,hbel⟩:=hrel
  by_cases hlt:k<a.args.length
  ·have hlt2 : k < b.args.length := by have := hl.out; omega
   obtain⟨b1,o1,rfl,he1⟩:=ga.out (by omega)
   obtain⟨b2,o2,rfl,he2⟩:=gb.out (by omega)
   obtain⟨x,hx⟩:=Yf hlt
   obtain⟨y,hy⟩:=Yf hlt2
   obtain⟨_,_,⟨rfl,_⟩,hc1⟩:=he1 k x hx.out
   obtain⟨_,_,⟨rfl,_⟩,hc2⟩:=he2 k y hy.out
   obtain⟨p0,p1,p2⟩:=(hc1.later hwW hws).three
   obtain⟨q0,q1,q2⟩:=(hc2.later hwW hws).three
   clear he1 he2 hc1 hc2
   cases f0:(x.kind==y.kind) with
   | false =>
    go_wp2
    go_quiet (fail)
    go_wp2
    go_ret
    exact⟨Z6 (dec_no fun h=>opds_ne (fun e=>by rw [e] at f0;simp at f0) hx.out hy.out (congrArg Ins.args h)),hwW.trans ((hbel.trans (Yi (Below.refl _ _) _)).mono hws)⟩
   | true =>
   cases f1:(x.num==y.num) with
   | false =>
    go_wp2
    go_quiet (fail)
    go_wp2
    go_ret
    exact⟨Z6 (dec_no fun h=>opds_ne (fun e=>by rw [e] at f1;simp at f1) hx.out hy.out (congrArg Ins.args h)),hwW.trans ((hbel.trans (Yi (Below.refl _ _) _)).mono hws)⟩
   | true =>
   cases f2:(x.bits==y.bits) with
   | false =>
    go_wp2
    go_quiet (fail)
    go_wp2
    go_ret
    exact⟨Z6 (dec_no fun h=>opds_ne (fun e=>by rw [e] at f2;simp at f2) hx.out hy.out (congrArg Ins.args h)),hwW.trans ((hbel.trans (Yi (Below.refl _ _) _)).mono hws)⟩
   | true =>
    go_wp2
    go_quiet (fail)
    go_wp2
    go_roundw
    case rel =>
     have hxy:x=y:=by
      cases x;cases y
      simp only [beq_iff_eq] at f0 f1 f2
      subst f0 f1 f2
      rfl
     exact⟨k+1,hlt,by go_num,hide (otake_next hall.out (hxy▸hx.out) hy.out),hbel.trans (Yi (Below.refl _ _) _)⟩
    case measure=>simp [intOf];omega
  ·go_wp2_with (go_at_call 33; refine (rints_any _ _ a.to b.to _ W.heap.size hbel.size (Z4.later ha2.out (hwW.trans (hbel.mono hws)) hws) (Z4.later hb2.out (hwW.trans (hbel.mono hws)) hws)).mono ?_; rintro e w1 ⟨rfl, hcall⟩)
   go_ret
   exact⟨Z6 (ins_same e0.out e1.out e2.out e3.out e4.out (opds_full hl.out (by omega) hall.out)),Ycj (hwW.trans (hbel.mono hws)) (Nat.le_refl _) hcall⟩
theorem ltake_next {α:Type} {a b:List α} {k:Nat} {x:α} (h:a.take k=b.take k) (ha:a[k]? = some x) (hb:b[k]? = some x):a.take (k+1)=b.take (k+1):=by
 rw [List.take_add_one,List.take_add_one,h,ha,hb]
theorem ltake_full {α:Type} {a b:List α} {k:Nat} (hl:a.length=b.length) (hk:a.length≤k) (h:a.take k=b.take k):a=b:=by
 rwa [List.take_of_length_le hk,List.take_of_length_le (hl▸hk)] at h
theorem Yk {w:World} {B:Nat} {x:Fun} {c d:Value} (h:RFun.rep w B [.string x.name,c, .int .i64 x.ret,d] x):Z4.rep w B [c] x.params∧RBlks.rep w B [d] x.blocks:=by
 obtain⟨c',d',e,h1,h2,_⟩:=h
 cases e
 exact⟨h1,h2⟩
theorem blks_at {w:World} {B:Nat} {d:Value} {bs:List (List Ins)} (h:RBlks.rep w B [d] bs):∃A cap,d = .slice A bs.length cap∧bs.length≤9223372036854775807∧(0<bs.length→∃b off,A=some ⟨b,off,none⟩∧∀i x,bs[i]? = some x→
  ∃A1 cap1,(∀w',Below B w w'→w'.cell? ⟨b,off+i,none⟩=some (.slice A1 x.length cap1))∧x.length≤9223372036854775807∧(0<x.length→∃b1 off1,A1=some ⟨b1,off1,none⟩∧∀j ins,x[j]? = some ins→
   ∃ca da,RIns.rep w B [.int .i64 ins.op, .int .i64 ins.reg, .int .i64 ins.ty, .int .i64 ins.num, .int .i64 ins.flags,ca,da] ins∧Yb6 w B b1 (off1+j*7) [.int .i64 ins.op, .int .i64 ins.reg, .int .i64 ins.ty, .int .i64 ins.num, .int .i64 ins.flags,ca,da])):=by
 obtain⟨A,cap,h1,h2,h3⟩:=Rp.slice1_open h
 cases h1
 refine⟨A,cap,rfl,h2,fun hp => ?_⟩
 obtain⟨b,off,hA,he⟩:=h3 hp
 refine⟨b,off,hA,fun i x hx => ?_⟩
 obtain⟨c,hr,hc⟩:=he i x hx
 obtain⟨A1,cap1,h4,h5,h6⟩:=Rp.slice_open hr
 cases h4
 refine⟨A1,cap1,hc,h5,fun hp1 => ?_⟩
 obtain⟨b1,off1,hA1,he1⟩:=h6 hp1
 refine⟨b1,off1,hA1,fun j ins hj => ?_⟩
 obtain⟨es,hl,hr1,hcs⟩:=he1 j ins hj
 obtain⟨ca,da,e,_⟩:=id hr1
 subst e
 exact⟨ca,da,hr1,hcs⟩
theorem bytes_same {a b:ByteArray} (h:a.toList=b.toList):a=b:=Go.WideShapes.bytes_inj (by rwa [ByteArray.toList_eq,ByteArray.toList_eq] at h)
def headEq (a b:Fun):Bool:=decide (a.params=b.params∧a.name=b.name∧a.ret=b.ret∧a.blocks.length=b.blocks.length)
theorem funcs_any (a b : Fun) (c1 d1 c2 d2 : Value) (w : World) (B : Nat) (hB : B ≤ w.heap.size) (ha : RFun.rep w B [.string a.name, c1, .int .i64 a.ret, d1] a) (hb : RFun.rep w B [.string b.name, c2, .int .i64 b.ret, d2] b) :
  Calls Tryz.prog 12 #[a.v c1 d1,b.v c2 d2] w fun e w'=>e = .returned (.bool (decide (a=b)))∧Below w.heap.size w w':=by
 obtain⟨hpa,hba⟩:=Yk (RFun.later ha (Below.refl _ _) hB)
 obtain⟨hpb,hbb⟩:=Yk (RFun.later hb (Below.refl _ _) hB)
 obtain⟨A1,k1,rfl,hl1,ga⟩:=blks_at hba
 obtain⟨A2,k2,rfl,hl2,gb⟩:=blks_at hbb
 clear ha hb hba hbb
 obtain⟨n1,hn1⟩:=Jn (a.blocks.length)
 obtain⟨n2,hn2⟩:=Jn (b.blocks.length)
 rw [←hn1.out] at hl1⊢
 rw [←hn2.out] at hl2⊢
 obtain⟨W,hW,hwW,hWs,hx,hy⟩:=Ql w #[.string a.name,c1, .int .i64 a.ret, .slice A1 n1 k1] #[.string b.name,c2, .int .i64 b.ret, .slice A2 n2 k2] 32 32
 have x0:=hx 0 _ rfl
 have x1:=hx 1 _ rfl
 have x2:=hx 2 _ rfl
 have x3:=hx 3 _ rfl
 have y0:=hy 0 _ rfl
 have y1:=hy 1 _ rfl
 have y2:=hy 2 _ rfl
 have y3:=hy 3 _ rfl
 clear hx hy
 have hws:w.heap.size≤W.heap.size:=by omega
 have hww:=Nat.le_refl W.heap.size
 replace hWs:=hide hWs
 have cI:=hide (rints_any c1 c2 a.params b.params W W.heap.size (Nat.le_refl _) (Z4.later hpa hwW hws) (Z4.later hpb hwW hws))
 refine hd2 ga gb ?_;clear ga gb;intro ga gb
 have hself:=Below.refl W.heap.size W
 refine hd2 hW hwW ?_;clear hW hwW;intro hW hwW
 clear hpa hpb
 go_enter Tryz.func12,Tryz.ntmps12
 go_upto_region 1 with(fail)
 rw [hW.out]
 clear hW
 go_upto_region 2 with(go_at_call 33;refine cI.out.mono ?_;rintro e w1 ⟨rfl,hb1⟩)
 obtain⟨hd,hhd⟩:∃hd:Bool,Hid ((!headEq a b)=hd):=⟨_,hide rfl⟩
 clear cI hself
 have heq:Hid ((a.params==b.params)=decide (a.params=b.params)):=hide (by rw [Bool.eq_iff_iff];simp)
 rw [heq.out]
 go_cut [5,38] (fun s5 s38 wx=>s38 = .bool hd∧wx=w1)
 case first =>
  by_cases p1:a.params=b.params
  ·rw [decide_eq_true p1]
   by_cases p2:a.name=b.name
   ·have g2 : (a.name.toList == b.name.toList) = true := by rw [p2]; simp
    by_cases p3:a.ret=b.ret
    ·have g3 : (a.ret != b.ret) = false := by rw [p3]; simp
     by_cases p4:n1=n2
     ·have g4 : ((n1 : Int) != (n2 : Int)) = false := by rw [p4]; simp
      have hf:hd=false:=by rw [←hhd.out,show headEq a b=true from decide_eq_true ⟨p1,p2,p3,by rw [←hn1.out,←hn2.out];exact p4⟩];rfl
      refine hd4 p1 p2 p3 p4 ?_;clear p1 p2 p3 p4;intro p1 p2 p3 p4
      go_wp2_with fail
      go_meet
      exact⟨by rw [hf],rfl⟩
     ·have g4 : ((n1 : Int) != (n2 : Int)) = true := bne_iff_ne.2 (by omega)
      have hf:hd=true:=by rw [←hhd.out,show headEq a b=false from decide_eq_false (fun h=>p4 (by rw [hn1.out,hn2.out];exact h.2.2.2))];rfl
      refine hd4 p1 p2 p3 p4 ?_;clear p1 p2 p3 p4;intro p1 p2 p3 p4
      go_wp2_with fail
      go_meet
      exact⟨by rw [hf],rfl⟩
    ·have g3 : (a.ret != b.ret) = true := bne_iff_ne.2 p3
     have hf:hd=true:=by rw [←hhd.out,show headEq a b=false from decide_eq_false (fun h=>p3 h.2.2.1)];rfl
     refine hd3 p1 p2 p3 ?_;clear p1 p2 p3;intro p1 p2 p3
     go_wp2_with fail
     go_meet
     exact⟨by rw [hf],rfl⟩
   ·have g2 : (a.name.toList == b.name.toList) = false := beq_eq_false_iff_ne.2 (fun h => p2 (bytes_same h))
    have hf:hd=true:=by rw [←hhd.out,show headEq a b=false from decide_eq_false (fun h=>p2 h.2.1)];rfl
    refine hd2 p1 p2 ?_;clear p1 p2;intro p1 p2
    go_wp2_with fail
    go_meet
    exact⟨by rw [hf],rfl⟩
  ·rw [decide_eq_false p1]
   have hf:hd=true:=by rw [←hhd.out,show headEq a b=false from decide_eq_false (fun h=>p1 h.1)];rfl
   replace p1:=hide p1
   go_wp2_with fail
   go_meet
   exact⟨by rw [hf],rfl⟩
 case rest =>
  obtain⟨rfl,hwc⟩:=hcut
  rw [hwc]
  clear hwc
  cases hd with
  | true =>
   have hne:a≠b:=fun h=>by
    have:=hhd.out
    unfold headEq at this
    rw [h] at this
    simp at this
   replace hb1:=hide hb1
   go_wp2_with fail
   go_ret
   exact⟨Z6 (by rw [decide_eq_false hne]),hwW.out.trans (hb1.out.mono hws)⟩
  | false =>
   have hhead:=of_decide_eq_true (show headEq a b=true by have:=hhd.out;simpa using this)
   have hl12:n2=n1:=by rw [hn1.out,hn2.out];exact hhead.2.2.2.symm
   subst hl12
   have hlen:Hid (a.blocks.length=b.blocks.length):=hide hhead.2.2.2
   replace hhead:=hide hhead
   go_wp2_with fail
   go_loopw [6] (fun u6 wr=>∃k:Nat,k≤n2∧u6 = .int .i64 k∧Hid (a.blocks.take k=b.blocks.take k)∧Below W.heap.size W wr) (fun u6 _=>n2 - (intOf u6).toNat)
   case atStart=>exact⟨0,Nat.zero_le _,rfl,hide rfl,hb1⟩
   case round =>
    clear hb1
    obtain⟨k,hk,rfl,htk,hbel⟩:=hrel
    by_cases hlt:k<n2
    ·obtain ⟨q1, o1, rfl, he1⟩ := ga.out (by rw [← hn1.out]; omega)
     obtain⟨q2,o2,rfl,he2⟩:=gb.out (by rw [←hn2.out];omega)
     obtain⟨x,hx⟩:=Yf (l:=a.blocks) (k:=k) (by rw [←hn1.out];exact hlt)
     obtain⟨y,hy⟩:=Yf (l:=b.blocks) (k:=k) (by rw [←hn2.out];exact hlt)
     obtain⟨A3,k3,c3,hl3,gx⟩:=he1 k x hx.out
     obtain⟨A4,k4,c4,hl4,gy⟩:=he2 k y hy.out
     have d3:∀w',Below W.heap.size W w'→w'.cell? ⟨q1,o1+k,none⟩=some (.slice A3 x.length k3):=fun w' h=>c3 w' (hwW.out.trans (h.mono hws))
     have d4:∀w',Below W.heap.size W w'→w'.cell? ⟨q2,o2+k,none⟩=some (.slice A4 y.length k4):=fun w' h=>c4 w' (hwW.out.trans (h.mono hws))
     clear c3 c4 he1 he2
     refine hd2 gx gy ?_;clear gx gy;intro gx gy
     obtain⟨m1,hm1⟩:=Jn (x.length)
     obtain⟨m2,hm2⟩:=Jn (y.length)
     rw [←hm1.out] at d3 hl3
     rw [←hm2.out] at d4 hl4
     by_cases hmm:m1=m2
     ·subst hmm
      have g4:((m1:Int) != (m1:Int))=false:=by simp
      go_upto_region 7 with(fail)
      go_quiet (fail)
      go_wp2_with fail
      have hbd:=Yi hbel 15
      go_loopw [7] (fun u7 wr=>∃j:Nat,j≤m1∧u7 = .int .i64 j∧Hid (x.take j=y.take j)∧Below W.heap.size W wr) (fun u7 _=>m1 - (intOf u7).toNat)
      case atStart=>exact⟨0,Nat.zero_le _,rfl,hide rfl,Yi hbel _⟩
      case round =>
       clear hbel hbd
       obtain⟨j,hj,rfl,htj,hbel⟩:=hrel
       by_cases hlt2:j<m1
       ·obtain ⟨p1, r1, rfl, hi1⟩ := gx.out (by rw [← hm1.out]; omega)
        obtain⟨p2,r2,rfl,hi2⟩:=gy.out (by rw [←hm2.out];omega)
        obtain⟨i1,hi3⟩:=Yf (l:=x) (k:=j) (by rw [←hm1.out];exact hlt2)
        obtain⟨i2,hi4⟩:=Yf (l:=y) (k:=j) (by rw [←hm2.out];exact hlt2)
        obtain⟨ca,da,hra,hca⟩:=hi1 j i1 hi3.out
        obtain⟨cb,db,hrb,hcb⟩:=hi2 j i2 hi4.out
        obtain⟨a0,a1,a2,a3,a4,a5,a6⟩:=(hca.later hwW.out hws).seven
        obtain⟨b0,b1,b2,b3,b4,b5,b6⟩:=(hcb.later hwW.out hws).seven
        have cI:Hid (∀W',Below W.heap.size W W'→Calls Tryz.prog 34 #[i1.v ca da,i2.v cb db] W' fun e w'=>e = .returned (.bool (decide (i1=i2)))∧Below W'.heap.size W' w'):=hide (fun W' h'=>by
         have hW':=hwW.out.trans (h'.mono hws)
         exact instrs_any i1 i2 ca da cb db W' W'.heap.size (Nat.le_refl _) (RIns.later hra hW' hW'.size) (RIns.later hrb hW' hW'.size))
        clear hi1 hi2 hca hcb hra hrb
        by_cases hii:i1=i2
        ·rw [decide_eq_true hii] at cI
         replace hii:=hide hii
         go_upto_region 12 with(fail)
         go_region_held3 (fun w' => Below W.heap.size W w') (first | (with_reducible assumption) | exact hbel.drew)
          (first
           | (go_at_call 34;refine(cI.out _ (by first|with_reducible assumption|exact hbel.drew)).mono ?_;rintro e w5 ⟨rfl,hb5⟩;have hk5:Below W.heap.size W w5:=Ycj (by first|with_reducible assumption|exact hbel.drew) hww hb5;clear hb5))
         go_wp2
         go_roundw
         case rel=>exact⟨j+1,by omega,by go_num,hide (ltake_next htj.out hi3.out (hii.out.symm▸hi4.out)),hk5⟩
         case measure=>simp [intOf];omega
        ·rw [decide_eq_false hii] at cI
         have hne:a≠b:=fun h=>by
          have hxy:=hx.out
          rw [h,hy.out] at hxy
          cases hxy
          have h4:=hi4.out
          rw [hi3.out] at h4
          exact hii (Option.some.inj h4)
         replace hii:=hide hii
         go_upto_region 12 with(fail)
         go_region_held3 (fun w' => Below W.heap.size W w') (first | (with_reducible assumption) | exact hbel.drew)
          (first
           | (go_at_call 34;refine(cI.out _ (by first|with_reducible assumption|exact hbel.drew)).mono ?_;rintro e w5 ⟨rfl,hb5⟩;have hk5:Below W.heap.size W w5:=Ycj (by first|with_reducible assumption|exact hbel.drew) hww hb5;clear hb5))
         have hk6:=hide hk5
         go_wp2
         go_ret
         exact⟨Z6 (by rw [decide_eq_false hne]),hwW.out.trans (hk6.out.mono hws)⟩
       ·obtain rfl : j = m1 := by omega
        have hxy:x=y:=ltake_full (by rw [←hm1.out,←hm2.out]) (by rw [←hm1.out];exact Nat.le_refl _) htj.out
        have hnx:=hide (ltake_next htk.out hx.out (hxy▸hy.out))
        replace hxy:=hide hxy
        go_wp2
        go_roundw
        case rel=>exact⟨k+1,by omega,by go_num,hnx,hbel⟩
        case measure=>simp [intOf];omega
     ·have hne:a≠b:=fun h=>by
       have hxy:=hx.out
       rw [h,hy.out] at hxy
       cases hxy
       exact hmm (by rw [hm1.out,hm2.out])
      have g4:((m1:Int) != (m2:Int))=true:=bne_iff_ne.2 (by omega)
      replace hmm:=hide hmm
      have hb9:=hide hbel
      go_upto_region 7 with(fail)
      go_quiet (fail)
      go_wp2_with fail
      go_ret
      exact⟨Z6 (by rw [decide_eq_false hne]),hwW.out.trans ((Yi hb9.out _).mono hws)⟩
    ·obtain rfl : k = n2 := by omega
     have hab:a=b:=by
      have h1:=hhead.out
      have h2:a.blocks=b.blocks:=ltake_full hlen.out (by rw [←hn1.out];exact Nat.le_refl _) htk.out
      cases a;cases b
      simp only at h1 h2
      obtain⟨e1,e2,e3, -⟩:=h1
      subst e1 e2 e3 h2
      rfl
     have hb9:=hide hbel
     go_wp2_with fail
     go_ret
     exact⟨Z6 (by rw [decide_eq_true hab]),hwW.out.trans (hb9.out.mono hws)⟩
theorem Z5:(Tryz.prog.info? 3).map (fun i=>(i.zero,i.size,i.bytes))=some (some (.int .i64 0),1,8):=by kernel_rfl
theorem Q8:(Tryz.prog.info? 62).map (fun i=>(i.zero,i.size,i.bytes))=some (some (.agg #[.int .i64 0, .int .i64 0, .int .u64 0]),3,24):=by kernel_rfl
theorem Ya5:(Tryz.prog.info? 44).map (fun i=>(i.zero,i.size,i.bytes))=some (some (.agg #[.int .i64 0, .int .i64 0, .int .i64 0, .int .i64 0, .int .i64 0, .slice none 0 0, .slice none 0 0]),7,88):=by kernel_rfl
theorem cinfo_Block:(Tryz.prog.info? 41).map (fun i=>(i.zero,i.size,i.bytes))=some (some (.agg #[.slice none 0 0]),1,24):=by kernel_rfl
theorem Yh {P:Program} {t:TypeId} {z:Option Value} {s b:Nat} (h:(P.info? t).map (fun i=>(i.zero,i.size,i.bytes))=some (z,s,b)):∃i,P.info? t=some i∧i.zero=z∧i.size=s∧i.bytes=b:=by
 cases hi:P.info? t with
 | none=>rw [hi] at h;cases h
 | some i=>rw [hi] at h;cases h;exact⟨i,rfl,rfl,rfl,rfl⟩
theorem ints_one (l:List Int):∀v∈l.map (fun z=>Value.int .i64 z),v.oneCell'=true:=by
 intro v hv
 obtain⟨z, -,rfl⟩:=List.mem_map.1 hv
 rfl
theorem oc_one (p:List Opd):∀v∈p.flatMap oc,v.oneCell'=true:=by
 intro v hv
 obtain⟨b, -,hb⟩:=List.mem_flatMap.1 hv
 simp only [oc,List.mem_cons,List.not_mem_nil,or_false] at hb
 rcases hb with rfl|rfl|rfl<;>rfl
theorem ints_src {w:World} {A:Option Addr} {n c:Nat} {l:List Int} (h:Z4.rep w w.heap.size [.slice A n c] l):n=l.length∧(A=none→l.length=0)∧(∀x,x∈l→I64 x)∧∀W,Below w.heap.size w W→∀ad,A=some ad→∀j u,(l.map fun z=>Value.int .i64 z)[j]? = some u→W.cell? (ad.add j)=some u:=by
 obtain⟨A',cap',h1,h2,h3⟩:=Rp.slice1_open h
 cases h1
 refine⟨rfl,fun e => ?_,fun x hx => ?_,fun W hW ad had j u hu => ?_⟩
 ·rcases Nat.eq_zero_or_pos l.length with h | h
  ·exact h
  ·obtain⟨b,off,h4, -⟩:=h3 h;rw [e] at h4;cases h4
 ·obtain ⟨i, hi⟩ := List.mem_iff_getElem?.1 hx
  obtain⟨b,off,h4,h5⟩:=h3 (by have:=(Js.1 hi).1;omega)
  obtain⟨cc,⟨-,h6⟩, -⟩:=h5 i x hi
  exact h6
 ·rw [List.getElem?_map] at hu
  cases hz:l[j]? with
  | none=>rw [hz] at hu;cases hu
  | some z =>
   rw [hz] at hu
   cases hu
   obtain⟨b,off,h4,h5⟩:=h3 (by have:=(Js.1 hz).1;omega)
   rw [h4] at had
   cases had
   obtain⟨cc,⟨h6, -⟩,h7⟩:=h5 j z hz
   cases h6
   rw [show(⟨b,off,none⟩:Addr).add j=⟨b,off+j,none⟩ from add_mk b off j]
   exact h7 W hW
theorem opds_src {w:World} {A:Option Addr} {n c:Nat} {l:List Opd} (h:ROpds.rep w w.heap.size [.slice A n c] l):n=l.length∧(A=none→l.length=0)∧(∀x,x∈l→I64 x.kind∧I64 x.num)∧∀W,Below w.heap.size w W→∀ad,A=some ad→∀j u,(l.flatMap oc)[j]? = some u→W.cell? (ad.add j)=some u:=by
 obtain⟨A',cap',h1,h2,h3⟩:=Rp.slice_open h
 cases h1
 refine⟨rfl,fun e => ?_,fun x hx => ?_,fun W hW ad had j u hu => ?_⟩
 ·rcases Nat.eq_zero_or_pos l.length with h | h
  ·exact h
  ·obtain⟨b,off,h4, -⟩:=h3 h;rw [e] at h4;cases h4
 ·obtain ⟨i, hi⟩ := List.mem_iff_getElem?.1 hx
  obtain⟨b,off,h4,h5⟩:=h3 (by have:=(Js.1 hi).1;omega)
  obtain⟨es, -,⟨-,h6⟩, -⟩:=h5 i x hi
  exact h6
 ·rw [oc_get] at hu
  cases hz:l[j / 3]? with
  | none=>rw [hz] at hu;cases hu
  | some z =>
   rw [hz] at hu
   obtain⟨b,off,h4,h5⟩:=h3 (by have:=(Js.1 hz).1;omega)
   rw [h4] at had
   cases had
   obtain⟨es, -,⟨h6, -⟩,h7⟩:=h5 (j / 3) z hz
   subst h6
   rw [show(⟨b,off,none⟩:Addr).add j=⟨b,off+j,none⟩ from add_mk b off j,show off+j=off+j / 3*3+j % 3 by omega]
   exact h7 (j % 3) u hu W hW
theorem box4 {w:World} {N:Nat} {a b c d:Value} {t:TypeId} (h:w.heap[N]? = some (.cells #[a,b,c,d] t (0,0))):w.cell? ⟨N,0,none⟩=some a∧w.cell? ⟨N,1,none⟩=some b∧w.cell? ⟨N,2,none⟩=some c∧w.cell? ⟨N,3,none⟩=some d:=by simp [World.cell?,h]
theorem box7 {w:World} {N:Nat} {a b c d e f g:Value} {t:TypeId} (h:w.heap[N]? = some (.cells #[a,b,c,d,e,f,g] t (0,0))):w.cell? ⟨N,0,none⟩=some a∧w.cell? ⟨N,1,none⟩=some b∧w.cell? ⟨N,2,none⟩=some c∧w.cell? ⟨N,3,none⟩=some d∧w.cell? ⟨N,4,none⟩=some e∧w.cell? ⟨N,5,none⟩=some f∧w.cell? ⟨N,6,none⟩=some g:=by simp [World.cell?,h]
structure Zo (f : Fun) : Prop where
 params:f.params.length≤2000000
 blocks:f.blocks.length≤2000000
 code:∀x,x∈f.blocks→x.length≤2000000∧∀i,i∈x→i.args.length≤2000000∧i.to.length≤2000000
def RVr:Rp Vr := .plain (fun x => [.string x.name, .int .i64 x.size]) fun x=>I64 x.size∧x.name.size≤maxLen
def RExt : Rp Ext where
 rep w B cs x:=∃c,cs = [.string x.name,c, .int .i64 x.ret]∧Z4.rep w B [c] x.params∧I64 x.ret∧x.name.size≤maxLen
 keep:=by
  rintro w w' B B' cs x ⟨c,h,h1,h2⟩ hk hB
  exact⟨c,h,Z4.keep h1 hk hB,h2⟩
def RVrs:Rp (List Vr) := .slice 2 RVr
def RExts:Rp (List Ext) := .slice 3 RExt
def RFuns:Rp (List Fun) := .slice 4 RFun
def SomeBit (w:World) (e:Ending) (w':World):Prop:=∃b:Bool,e = .returned (.bool b)∧Below w.heap.size w w'
theorem few_any (vs : List Vr) (xs : List Ext) (fs : List Fun) (most : Int) (c d e : Value) (w : World) (B : Nat) (hB : B ≤ w.heap.size) (hv : RVrs.rep w B [c] vs) (hx : RExts.rep w B [d] xs) (hf : RFuns.rep w B [e] fs) :
  Calls Tryz.prog 21 #[.agg #[c,d,e], .int .i64 most] w (SomeBit w):=by
 obtain⟨A1,k1,h1,hm1, -⟩:=Rp.slice_open hv
 obtain⟨A2,k2,h2,hm2,gx⟩:=Rp.slice_open (RExts.later hx (Below.refl _ _) hB)
 obtain⟨A3,k3,h3,hm3,gf⟩:=Rp.slice_open (RFuns.later hf (Below.refl _ _) hB)
 cases h1;cases h2;cases h3
 refine hd2 gx gf ?_;clear gx gf;intro gx gf
 clear hv hx hf
 obtain⟨W,hW,hwW,hWs,hbx⟩:=Y6 w #[.slice A1 vs.length k1, .slice A2 xs.length k2, .slice A3 fs.length k3] 26
 have x0:=hbx 0 _ rfl
 have x1:=hbx 1 _ rfl
 have x2:=hbx 2 _ rfl
 clear hbx
 have hsz:w.heap.size≤W.heap.size:=by omega
 replace hWs:=hide hWs
 have hself:=Below.refl W.heap.size W
 go_enter Tryz.func21,Tryz.ntmps21
 go_wp2
 clear hW
 go_loopw [5,28] (fun n i wr=>∃(k:Nat) (m:Int),k≤xs.length∧i = .int .i64 k∧n = .int .i64 m∧Below W.heap.size W wr) (fun _ i _=>xs.length - (intOf i).toNat)
 case atStart=>exact⟨0,_,Nat.zero_le _,rfl,rfl,Below.refl _ _⟩
 case round =>
  obtain⟨k,m,hk,rfl,rfl,hbel⟩:=hrel
  by_cases hlt:k<xs.length
  ·obtain ⟨b1, o1, rfl, he1⟩ := gx.out (by omega)
   obtain⟨x,hx⟩:=Yf hlt
   obtain⟨_,_,⟨c1,rfl,hr1, -⟩,hc1⟩:=he1 k x hx.out
   obtain⟨p0,p1,p2⟩:=(hc1.later hwW hsz).three
   obtain⟨A4,k4,h4,hm4, -⟩:=Rp.slice1_open hr1
   cases h4
   clear he1 hr1 hc1
   go_wp2
   go_roundw
   case rel=>exact⟨k+1,_,hlt,by go_num,rfl,hbel.alloc hbel.size _⟩
   case measure=>simp [intOf];omega
  ·go_wp2
   go_loopw [5,41] (fun n i wr=>∃(k:Nat) (m:Int),k≤fs.length∧i = .int .i64 k∧n = .int .i64 m∧Below W.heap.size W wr) (fun _ i _=>fs.length - (intOf i).toNat)
   case atStart=>exact⟨0,_,Nat.zero_le _,rfl,rfl,hbel⟩
   case round =>
    clear hbel
    obtain⟨k,m,hk,rfl,rfl,hbel⟩:=hrel
    by_cases hlt2:k<fs.length
    ·obtain ⟨b1, o1, rfl, he1⟩ := gf.out (by omega)
     obtain⟨f,hfk⟩:=Yf hlt2
     obtain⟨_,_,⟨c1,c2,rfl,hr1,hr2, -⟩,hc1⟩:=he1 k f hfk.out
     obtain⟨p0,p1,p2,p3⟩:=(hc1.later hwW hsz).four
     obtain⟨A4,k4,h4,hm4, -⟩:=Rp.slice1_open hr1
     obtain⟨A5,k5,h5,hm5,gb⟩:=Rp.slice1_open hr2
     cases h4;cases h5
     replace gb:=hide gb
     clear he1 hr1 hr2 hc1
     have hbel2:Below W.heap.size W (wr.alloc (.cells #[.string f.name, .slice A4 f.params.length k4, .int .i64 f.ret, .slice A5 f.blocks.length k5] 32)):=hbel.alloc hbel.size _
     go_wp2
     go_loopw [5,57] (fun n i wr=>∃(k:Nat) (m:Int),k≤f.blocks.length∧i = .int .i64 k∧n = .int .i64 m∧Below W.heap.size W wr) (fun _ i _=>f.blocks.length - (intOf i).toNat)
     case atStart=>exact⟨0,_,Nat.zero_le _,rfl,rfl,hbel2⟩
     case round =>
      clear hbel hbel2
      obtain⟨j,m3,hj,rfl,rfl,hbel⟩:=hrel
      by_cases hlt3:j<f.blocks.length
      ·obtain ⟨b2, o2, rfl, he2⟩ := gb.out (by omega)
       obtain⟨bl,hbl⟩:=Yf hlt3
       obtain⟨d1,hr3,hd1⟩:=he2 j bl hbl.out
       obtain⟨A6,k6,h6,hm6,gi⟩:=Rp.slice_open hr3
       cases h6
       replace gi:=hide gi
       have hd1':∀w',Below W.heap.size W w'→w'.cell? ⟨b2,o2+j,none⟩=some (.slice A6 bl.length k6):=fun w' h=>hd1 w' (hwW.trans (h.mono hsz))
       clear he2 hr3 hd1
       have hbel2:Below W.heap.size W (wr.alloc (.cells #[.slice A6 bl.length k6] 41)):=hbel.alloc hbel.size _
       go_wp2
       go_loopw [5,69] (fun n i wr=>∃(k:Nat) (m:Int),k≤bl.length∧i = .int .i64 k∧n = .int .i64 m∧Below W.heap.size W wr) (fun _ i _=>bl.length - (intOf i).toNat)
       case atStart=>exact⟨0,_,Nat.zero_le _,rfl,rfl,hbel2⟩
       case round =>
        clear hbel hbel2
        obtain⟨r,m4,hr,rfl,rfl,hbel⟩:=hrel
        by_cases hlt4:r<bl.length
        ·obtain ⟨b4, o4, rfl, he4⟩ := gi.out (by omega)
         obtain⟨ins,hins⟩:=Yf hlt4
         obtain⟨_,_,⟨c4,c5,rfl,ha,hto, -⟩,hc4⟩:=he4 r ins hins.out
         obtain⟨q0,q1,q2,q3,q4,q5,q6⟩:=(hc4.later hwW hsz).seven
         obtain⟨A7,k7,h7,hm7, -⟩:=Rp.slice_open ha
         obtain⟨A8,k8,h8,hm8, -⟩:=Rp.slice1_open hto
         cases h7;cases h8
         clear he4 ha hto hc4
         have hbel2:Below W.heap.size W (wr.alloc (.cells #[.int .i64 ins.op, .int .i64 ins.reg, .int .i64 ins.ty, .int .i64 ins.num, .int .i64 ins.flags, .slice A7 ins.args.length k7, .slice A8 ins.to.length k8] 44)):=hbel.alloc hbel.size _
         go_wp2
         ·go_ret
          exact⟨_,rfl,hwW.trans (hbel2.mono hsz)⟩
         ·go_roundw
          case rel=>exact⟨r+1,_,hlt4,by go_num,rfl,hbel2⟩
          case measure=>simp [intOf];omega
        ·go_wp2
         go_roundw
         case rel=>exact⟨j+1,_,hlt3,by go_num,rfl,hbel⟩
         case measure=>simp [intOf];omega
      ·go_wp2
       go_roundw
       case rel=>exact⟨k+1,_,hlt2,by go_num,rfl,hbel⟩
       case measure=>simp [intOf];omega
    ·go_wp2
     go_ret
     exact⟨_,rfl,hwW.trans (hbel.mono hsz)⟩
open Go Go.RowKit
theorem still_of_quiet {P:Program} {o:Oper} {a:Act} {w:World} {K:Act→Prop} (h:o.quiet P a (fun w'=>w'=w) K):o.still P a w K:=by
 obtain⟨v,h1,h2⟩:=h
 have h3:=h1 w rfl
 unfold Oper.quietAt at h3
 unfold Oper.still
 generalize (execOp a.eval o).run P w=r at *
 cases r with
 | ok n w' =>
  cases n<;>simp only [Oper.quietUpon] at h3<;>simp only [Oper.stillUpon]
  case value u=>obtain⟨e1,e2⟩:=h3;subst e2;exact⟨e1,h2⟩
  case skip=>obtain⟨e1,e2⟩:=h3;subst e2;exact⟨e1,h2⟩
  case enter f args=>exact⟨h3.1,v,h3.2,h2⟩
 | halt x w'=>simp only [Oper.quietUpon] at h3
theorem Qa {P : Program} {ops : Array Oper} {w : World} {Q : Act → Prop} : ∀ {rest : List Oper} {a : Act}, wpQuiet P ops (fun w' => w' = w) Q rest a → wpStill P ops w Q rest a
 | [],_,h=>h
 | o :: rest,a,h=>by
  unfold wpQuiet at h
  unfold wpStill
  split
  ·rename_i hw
   rw [if_pos hw] at h
   exact Oper.still_mono (fun a h=>Qa h) (still_of_quiet h)
  ·rename_i hw
   rw [if_neg hw] at h
   exact Qa h
theorem region_below {P : Program} {id : Nat} {Q : Exit → Act → World → Prop} {a : Act} {w W : World} {B : Nat} {l : List Oper} (hm : P.follows .mixedOrders = true) (hB : Region.lexB .any l.toArray = true) (hC : Below B W w)
  (h:wpQuiet P l.toArray (fun w'=>Below B W w') (fun a'=>∀w',Below B W w'→Q .normal a' w') l a):(Code.region id l.toArray true).wp P Q a w :=
 wp_region_quiet (C:=fun w'=>Below B W w') hm hB ⟨hC.os,hC.tape,hC.output,hC.size,hC.block⟩ (by simpa using h)
theorem ret_class {P : Program} {k : Nat} {args : Array Value} {v : Value} {W w9 : World} (c : Calls P k args w9 fun e w' => e = .returned v ∧ Below w9.heap.size w9 w') (h : Below W.heap.size W w9) :
  Calls P k args w9 fun e w''=>e = .returned v∧Below W.heap.size W w'':=c.mono fun _ _ h'=>⟨h'.1,h.trans (h'.2.mono h.size)⟩
section
variable {w w':World} {B:Nat}
theorem But.stored {T:TypeId} {size n cap g j:Nat} {xs:List Value} {u:Value} (h:w.ownsRow B T size (.slice (some ⟨g,0,none⟩) n cap) n xs):But T w (w.setCell ⟨g,j,none⟩ u):=fun k c t f hk ht =>
 Below.heap_setCell _ _ _ _ (fun e=>by
  obtain⟨-, -,c',h1⟩:=Ya h (k:=g) rfl
  have e':k=g:=e
  subst e'
  rw [hk] at h1
  injection h1 with h1
  injection h1 with _ h2
  exact ht h2)
end
theorem box_at {w:World} {N:Nat} (o:Obj) (h:N=w.heap.size):(w.alloc o).heap[N]? = some o:=by subst h;exact Yu _ _
theorem bk (w:World) (o:Obj):Below w.heap.size w (w.alloc o):=(Below.refl _ _).alloc (Nat.le_refl _) o
theorem cellsOf_at {l:List Ins} {es:List (Value×Value)} {k r:Nat} {x:Ins} {c d u:Value} (hx:l[k]? = some x) (he:es[k]? = some (c,d)) (hu:(insC x c d)[r]? = some u):(cellsOf l es)[k*7+r]? = some u:=by
 unfold cellsOf
 refine flatten_at (n:=7) (es:=insC x c d) (fun y hy => ?_) ?_ hu
 ·obtain ⟨i, hi⟩ := List.getElem?_of_mem hy
  rw [List.getElem?_zipWith] at hi
  split at hi
  ·cases hi;rfl
  ·cases hi
 ·rw [List.getElem?_zipWith,hx,he]
def Ye (f:Fun) (bs:List (List Ins)):Fun:=⟨f.name,f.params,f.ret,bs⟩
end Go.Proofs.YtamjcafjdioidaaGreat
