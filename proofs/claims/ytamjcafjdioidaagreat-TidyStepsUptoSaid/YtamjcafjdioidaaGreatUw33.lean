/- Texts of the chain, without what is not wanted: TdX, Sz, IrCe, TdY, TdZ, RfT, Sp. No condition but sizes. -/
import Derived.Test.YtamjcafjdioidaaGreatUw32
set_option linter.unusedVariables false
set_option linter.unusedSimpArgs false
set_option maxRecDepth 100000
set_option maxHeartbeats 12800000
namespace Go.Proofs.YtamjcafjdioidaaGreat
open Go.RowKit
theorem mz_flat (bs:List (List Ins)):mz bs≤bs.length+2*bs.flatten.length:=by
 induction bs with
 | nil=>simp [mz]
 | cons l bs ih =>
  rw [mz_cons,List.flatten_cons,List.length_append,List.length_cons]
  have:l.countP (fun x=>x.op==32)≤l.length:=List.countP_le_length
  unfold wt
  omega
theorem predsAt_mem {succ:Int→List Int} {c p:Int} {n:Nat}:p∈Q3 succ c n↔0≤p∧p.toNat<n∧c∈succ p:=by
 unfold Q3
 rw [List.mem_map]
 constructor
 ·rintro ⟨x, hx, rfl⟩
  obtain⟨h1,h2⟩:=List.mem_filter.1 hx
  have h3:=List.mem_range.1 h1
  exact⟨Int.natCast_nonneg x,by simpa using h3,by simpa using h2⟩
 ·rintro ⟨h1, h2, h3⟩
  refine⟨p.toNat,List.mem_filter.2 ⟨List.mem_range.2 h2,?_⟩,?_⟩
  ·rw [show((p.toNat:Nat):Int)=p by omega];simpa using h3
  ·show Int.ofNat p.toNat = p
   rw [Int.ofNat_eq_natCast]
   omega
theorem predsAt_sorted (succ:Int→List Int) (c:Int) (n:Nat):(Q3 succ c n).Pairwise (· < ·):=by
 unfold Q3
 rw [List.pairwise_map]
 refine(List.Pairwise.filter _ List.pairwise_lt_range).imp fun {a b} h => ?_
 rw [Int.ofNat_eq_natCast,Int.ofNat_eq_natCast]
 omega
theorem fun_tinv {m:Mod} {f:Fun} (h:Qs m f) (hs:Zo f):TInv f.blocks:=by
 obtain⟨hB,hF, -, -,hP, -⟩:=h
 obtain⟨⟨hb1,hb2,hb3⟩,hblk⟩:=hB
 have hform:∀(b j:Nat) blk x,f.blocks[b]? = some blk→blk[j]? = some x→formedB f.ret x b=true:=fun b j blk x hb hj=>(allAt_iff.1 hF b j blk x hb hj).1
 have hmany:∀(b j:Nat) blk x,f.blocks[b]? = some blk→blk[j]? = some x→(manyS f.ret x).1=x.args.length∧(manyS f.ret x).2=x.to.length:=fun b j blk x hb hj=>by
  have:=hform b j blk x hb hj
  unfold formedB at this
  simp only [Bool.and_eq_true,decide_eq_true_eq] at this
  exact this.1.1.1
 have hphi:∀(b j:Nat) blk x,f.blocks[b]? = some blk→blk[j]? = some x→x.op=25→b≠0∧x.to=Q3 (Yo f.blocks) b f.blocks.length∧AheadOk f b j:=fun b j blk x hb hj ho=>by
  obtain⟨h1,h2,h3⟩:=allAt_iff.1 hP b j blk x hb hj ho b j rfl
  refine⟨h1,?_,h3⟩
  unfold Zw at h2
  rw [List.getElem?_map,List.getElem?_range (Js.1 hb).1] at h2
  exact(Option.some.inj h2).symm
 have hlast:∀(b:Nat) blk x,f.blocks[b]? = some blk→blk.getLast? = some x→blk[blk.length - 1]? = some x∧Yce x.op=true∧(∀(i:Nat) z,i+1<blk.length→blk[i]? = some z→Yce z.op=false)∧∀t,t∈x.to→1≤t∧t<f.blocks.length:=fun b blk x hb hx=>by
  obtain⟨y,h1,h2,h3,h4⟩:=hblk b blk hb
  rw [List.getLast?_eq_getElem?,h1] at hx
  cases hx
  exact⟨h1,h2,h3,h4⟩
 have hloc:∀(c:Nat) l,f.blocks[c]? = some l→LInv f.blocks.length l:=fun c l hl=>by
  obtain⟨y,hy1,hy2,hy3,hy4⟩:=hblk c l hl
  have hyl:l.getLast? = some y:=by rw [List.getLast?_eq_getElem?];exact hy1
  have hyop:31≤y.op∧y.op≤34:=by simpa [Yce] using hy2
  have hne:l≠ []:=fun e=>by rw [e] at hy1;simp at hy1
  have hat:∀x,x∈l→∃j,l[j]? = some x:=fun x hx=>List.mem_iff_getElem?.1 hx
  have hto0:∀(j:Nat) x,l[j]? = some x→x.op≠25→x.op≠31→x.op≠32→x.to = []:=fun j x hj h1 h2 h3=>by
   obtain⟨-,h4⟩:=hmany c j l x hl hj
   refine List.eq_nil_of_length_eq_zero ?_
   unfold manyS at h4
   rw [if_neg h1,if_neg h2,if_neg h3] at h4
   split at h4
   ·simp at h4<;>omega
   ·split at h4
    ·simp at h4<;>omega
    ·split at h4
     ·simp at h4<;>omega
     ·split at h4
      ·simp at h4<;>omega
      ·split at h4
       ·split at h4<;>(simp at h4<;>omega)
       ·split at h4
        ·simp at h4<;>omega
        ·simp at h4<;>omega
  have hfr:Ycm l:=fun i j x z hi hj hij ho=>by
   by_cases e:i=j
   ·subst e
    rw [hi] at hj
    cases hj
    exact ho
   ·exact(hphi c j l z hl hj ho).2.2 l hl i x (by omega) hi
  have hmidop:∀(i:Nat) z,i+1<l.length→l[i]? = some z→z.op≠31∧z.op≠32:=fun i z hi hz=>by
   have:=hy3 i z hi hz
   unfold Yce at this
   simp only [decide_eq_false_iff_not] at this
   constructor<;>(intro e;exact this (by omega))
  have hto:∀x,x∈l→∀t,t∈x.to→0≤t∧t<f.blocks.length:=fun x hx t ht=>by
   obtain⟨j,hj⟩:=hat x hx
   by_cases h25:x.op=25
   ·rw [(hphi c j l x hl hj h25).2.1, predsAt_mem] at ht
    omega
   ·by_cases hj1 : j + 1 < l.length
    ·obtain ⟨h1, h2⟩ := hmidop j x hj1 hj
     rw [hto0 j x hj h25 h1 h2] at ht
     cases ht
    ·have hjl := (Js.1 hj).1
     rw [show j=l.length - 1 by omega,hy1] at hj
     cases hj
     have:=hy4 t ht
     omega
  refine⟨⟨hne,fun x hx ho => ?_,fun x hx ho => ?_,fun x hx ho => ?_,hto⟩,hfr,fun i x hi hil => ?_,fun x hx => ?_,fun x hx ho => ?_,fun x hx => ?_⟩
  ·obtain ⟨j, hj⟩ := hat x hx
   obtain⟨h1,h2⟩:=hmany c j l x hl hj
   unfold manyS at h1 h2
   rw [ho] at h1 h2
   simp at h1 h2
   omega
  ·obtain ⟨j, hj⟩ := hat x hx
   obtain⟨h1,h2⟩:=hmany c j l x hl hj
   unfold manyS at h1 h2
   rw [ho] at h1 h2
   simp at h1 h2
   omega
  ·obtain ⟨j, hj⟩ := hat x hx
   obtain⟨h1,h2⟩:=hmany c j l x hl hj
   unfold manyS at h1 h2
   rw [ho] at h1 h2
   simp at h1 h2
   omega
  ·by_cases h25 : x.op = 25
   ·exact .inl h25
   ·right
    obtain⟨h1,h2⟩:=hmidop i x hil hi
    exact hto0 i x hi h25 h1 h2
  ·rw [hyl] at hx
   cases hx
   refine⟨by omega,?_,fun t ht=>(hy4 t ht).1⟩
   by_cases h1:y.op=31
   ·exact .inl h1
   ·by_cases h2 : y.op = 32
    ·exact .inr (.inl h2)
    ·exact .inr (.inr (hto0 _ y hy1 (by omega) h1 h2))
  ·obtain ⟨j, hj⟩ := hat x hx
   rw [(hphi c j l x hl hj ho).2.1]
   exact predsAt_sorted _ _ _
  ·exact(hs.code l (Jm hl)).2 x hx
 refine⟨by omega,by have:=mz_flat f.blocks;omega,hloc,fun c l hl x hx ho => ?_⟩
 obtain⟨j,hj⟩:=List.mem_iff_getElem?.1 hx
 have hcl:=(Js.1 hl).1
 obtain⟨h1,h2, -⟩:=hphi c j l x hl hj ho
 refine⟨h1,fun p => ?_⟩
 rw [h2,predsAt_mem]
 constructor
 ·rintro ⟨p0, p1, p2⟩
  refine⟨p0,(Ya3 ⟨by omega,by omega⟩).2 ?_⟩
  rw [show((p.toNat:Nat):Int)=p by omega]
  exact p2
 ·rintro ⟨p0, p1⟩
  refine⟨p0,Yb0 p1,?_⟩
  have:=(Ya3 ⟨by omega,by omega⟩).1 p1
  rwa [show((p.toNat:Nat):Int)=p by omega] at this
def retB:List Ins := [⟨33, -1,0,0,0, [], []⟩]
def Ya0:List (List Ins) := [[⟨31, -1,0,0,0, [], [1]⟩],retB]
def Yax:Fun:=⟨⟨#[102]⟩, [],0,Ya0⟩
theorem livesT_s0:Yo Ya0 0 = [1]:=by decide
theorem livesT_s1:Yo Ya0 1 = []:=by decide
theorem livesT_reach:Yw Ya0 = [true,true]:=by
 have ho:Q4 Ya0 = [0,1]:=by
  unfold Q4
  rw [if_neg (by decide),livesT_s0,dfs_push (by decide),livesT_s1,dfs_pop,dfs_pop,dfs_nil]
  rfl
 unfold Yw
 rw [ho]
 rfl
theorem retB_s0:Yo [retB] 0 = []:=by decide
theorem retB_reach:Yw [retB] = [true]:=by
 have ho:Q4 [retB] = [0]:=by
  unfold Q4
  rw [if_neg (by decide),retB_s0,dfs_pop,dfs_nil]
  rfl
 unfold Yw
 rw [ho]
 rfl
theorem livesT_step:Yam Ya0=some [retB]:=by
 rw [stepS_cases,livesT_reach]
 have e0:Qe [true,true] Ya0=none:=by decide
 have e1:Ya9 [true,true] Ya0=none:=by decide
 have e2:Qw [true,true] Ya0=none:=by decide
 have e3:Yal [true,true] Ya0=none:=by decide
 have e4:Q5 (Zw (Yo Ya0) Ya0.length) Ya0=some [retB]:=by decide
 rw [e0,e1,e2,e3,e4]
 rfl
theorem retB_step:Yam [retB]=none:=by
 rw [stepS_cases,retB_reach]
 have e0:Qe [true] [retB]=none:=by decide
 have e1:Ya9 [true] [retB]=none:=by decide
 have e2:Qw [true] [retB]=none:=by decide
 have e3:Yal [true] [retB]=none:=by decide
 have e4:Q5 (Zw (Yo [retB]) [retB].length) [retB]=none:=by decide
 rw [e0,e1,e2,e3,e4]
 rfl
theorem fz_succ {bs:List (List Ins)} {k:Nat} {x:List Ins} (h:bs[k]? = some x):(bs.take (k+1)).flatten.length=(bs.take k).flatten.length+x.length:=by
 rw [Zl h,List.flatten_append,List.length_append]
 simp only [List.flatten_cons,List.flatten_nil,List.append_nil]
theorem fz_le (bs:List (List Ins)) (k:Nat):(bs.take k).flatten.length≤bs.flatten.length:=by
 have h:(bs.take k).flatten++(bs.drop k).flatten=bs.flatten:=by rw [←List.flatten_append,List.take_append_drop]
 rw [←h,List.length_append]
 omega
theorem isz_any (f : Fun) (c1 c2 : Value) (w : World) (B : Nat) (hB : B ≤ w.heap.size) (hp : Z4.rep w B [c1] f.params) (hb : RBlks.rep w B [c2] f.blocks) (hsz : f.blocks.flatten.length ≤ 1000000000000) :
  Calls Tryz.prog 20 #[f.v c1 c2] w fun e w'=>e = .returned (.int .i64 (f.blocks.flatten.length:Int))∧Below w.heap.size w w':=by
 obtain⟨A1,k1,h1,hm1, -⟩:=Rp.slice1_open hp
 obtain⟨A2,k2,h2,hm2,gb⟩:=Rp.slice1_open (RBlks.later hb (Below.refl _ _) hB)
 cases h1;cases h2
 replace gb:=hide gb
 clear hp hb
 go_enter Tryz.func20,Tryz.ntmps20
 go_wp2
 obtain⟨W,hW,hwW,hWs,hx⟩:=Y6 w #[.string f.name, .slice A1 f.params.length k1, .int .i64 f.ret, .slice A2 f.blocks.length k2] 32
 rw [hW]
 clear hW hx
 have hsz2:w.heap.size≤W.heap.size:=by omega
 replace hWs:=hide hWs
 go_loopw [3,9] (fun n i wr=>∃(k m:Nat),k≤f.blocks.length∧i = .int .i64 k∧n = .int .i64 m∧Hid (m=(f.blocks.take k).flatten.length)∧Below W.heap.size W wr) (fun _ i _=>f.blocks.length - (intOf i).toNat)
 case atStart=>exact⟨0,0,Nat.zero_le _,rfl,rfl,hide (by simp),Below.refl _ _⟩
 case round =>
  obtain⟨k,m,hk,rfl,rfl,hm,hbel⟩:=hrel
  by_cases hlt:k<f.blocks.length
  ·obtain ⟨b1, o1, rfl, he1⟩ := gb.out (by omega)
   obtain⟨x,hx⟩:=Yf hlt
   obtain⟨d1,hr1,hd1⟩:=he1 k x hx.out
   obtain⟨A3,c3,h3,hm3, -⟩:=Rp.slice_open hr1
   cases h3
   have hd1':∀w',Below W.heap.size W w'→w'.cell? ⟨b1,o1+k,none⟩=some (.slice A3 x.length c3):=fun w' h=>hd1 w' (hwW.trans (h.mono hsz2))
   clear hd1 hr1 he1
   have hmx:m+x.length≤1000000000000:=by
    have h1:=fz_succ hx.out
    have h2:=fz_le f.blocks (k+1)
    have h3:=hm.out
    omega
   have hm2':Hid (m+x.length=(f.blocks.take (k+1)).flatten.length):=hide (by rw [fz_succ hx.out,hm.out])
   go_wp2
   go_roundw
   case rel=>exact⟨k+1,m+x.length,hlt,by go_num,by go_num,hm2',hbel.alloc hbel.size _⟩
   case measure=>simp [intOf];omega
  ·have hfin : Hid (m = f.blocks.flatten.length) := hide (by rw [hm.out, List.take_of_length_le (by omega)])
   go_wp2
   go_ret
   exact⟨Ybk (by rw [hfin.out]),hwW.trans (hbel.mono hsz2)⟩
open Go.RowKit Go.ChangeShapes Go.WideShapes Go.Deep
theorem cells_Var : Tryz.prog.cellsOf 113 = 2:=by kernel_rfl
theorem cells_Vars : Tryz.prog.cellsOf 22 = 1:=by kernel_rfl
theorem cells_Extern : Tryz.prog.cellsOf 77 = 3:=by kernel_rfl
theorem cells_Externs : Tryz.prog.cellsOf 23 = 1:=by kernel_rfl
theorem cells_Funcs : Tryz.prog.cellsOf 24 = 1:=by kernel_rfl
theorem cells_Module : Tryz.prog.cellsOf 26 = 3:=by kernel_rfl
def extSz (x:Ext):Nat:=x.params.length+1
def extsSz (l:List Ext):Nat:=(l.map extSz).sum+1
def funsSz (l:List Fun):Nat:=(l.map Ybo).sum+1
def modSz (m:Mod):Nat:=m.vars.length+extsSz m.exts+funsSz m.funcs
theorem opens_Var:Opens 113 RVr (fun _=>1):=by
 intro H enc w base spare held fuel cs x h
 obtain⟨xs,k,_,rfl,hl,hlen,hf⟩:=DataW.trod_struct Tryz.underlying113 h
 obtain⟨c0,c1,rfl⟩:=len2 (hl.trans cells_Var)
 obtain⟨y0,y1,rfl⟩:=len2 (hlen.trans rfl)
 obtain⟨s,e0,_,hs⟩:=DataW.trod_string Tryz.underlying9 (hf 0 _ rfl)
 obtain⟨n1,e1,_,w1⟩:=DataW.trod_int Tryz.underlying3 (hf 1 _ rfl)
 simp [Ycg,cells_string] at e0 e1
 subst e0 e1
 exact⟨⟨s,n1⟩,⟨rfl,w1,hs⟩,bulk_one _⟩
theorem opens_Vars:Opens 22 RVrs (fun l=>l.length+1):=by
 have:=Yan Tryz.underlying22 cells_Var (by omega) opens_Var
 simp only [sum_ones] at this
 exact this
theorem opens_Extern:Opens 77 RExt extSz:=by
 intro H enc w base spare held fuel cs x h
 obtain⟨xs,k,_,rfl,hl,hlen,hf⟩:=DataW.trod_struct Tryz.underlying77 h
 obtain⟨c0,c1,c2,rfl⟩:=len3 (hl.trans cells_Extern)
 obtain⟨y0,y1,y2,rfl⟩:=len3 (hlen.trans rfl)
 obtain⟨s,e0,_,hs⟩:=DataW.trod_string Tryz.underlying9 (hf 0 _ rfl)
 obtain⟨l1,r1,m1⟩:=opens_Ints _ _ _ _ _ _ _ _ _ (hf 1 _ rfl)
 obtain⟨n2,e2,_,w2⟩:=DataW.trod_int Tryz.underlying3 (hf 2 _ rfl)
 simp [Ycg,cells_string,cells_Ints] at e0 r1 e2
 subst e0 e2
 refine⟨⟨s,l1,n2⟩,⟨c1,rfl,r1,w2,hs⟩,?_⟩
 simp only [extSz,List.map_cons,List.map_nil,Rows.uptoBulk,Rows.uptoBulkAll] at *
 omega
theorem opens_Externs:Opens 23 RExts extsSz:=Yan Tryz.underlying23 cells_Extern (by omega) opens_Extern
theorem opens_Funcs:Opens 24 RFuns funsSz:=Yan Tryz.underlying24 cells_Func (by omega) opens_Func
theorem opens_Module:Opens 26 RMod modSz:=by
 intro H enc w base spare held fuel cs x h
 obtain⟨xs,k,_,rfl,hl,hlen,hf⟩:=DataW.trod_struct Tryz.underlying26 h
 obtain⟨c0,c1,c2,rfl⟩:=len3 (hl.trans cells_Module)
 obtain⟨y0,y1,y2,rfl⟩:=len3 (hlen.trans rfl)
 obtain⟨l0,r0,m0⟩:=opens_Vars _ _ _ _ _ _ _ _ _ (hf 0 _ rfl)
 obtain⟨l1,r1,m1⟩:=opens_Externs _ _ _ _ _ _ _ _ _ (hf 1 _ rfl)
 obtain⟨l2,r2,m2⟩:=opens_Funcs _ _ _ _ _ _ _ _ _ (hf 2 _ rfl)
 simp [cells_Vars,cells_Externs,cells_Funcs] at r0 r1 r2
 refine⟨⟨l0,l1,l2⟩,⟨c0,c1,c2,rfl,r0,r1,r2⟩,?_⟩
 simp only [modSz,List.map_cons,List.map_nil,Rows.uptoBulk,Rows.uptoBulkAll] at *
 omega
theorem fun_le {m:Mod} {f:Fun} {K:Nat} (hf:f∈m.funcs) (h:modSz m≤K):Ybo f≤K:=by
 unfold modSz funsSz at h
 have h3:=sum_mem Ybo m.funcs f hf
 omega
theorem long16_any (m : Mod) (m1 m2 m3 : Value) (w : World) (ha : RMod.rep w w.heap.size [m1, m2, m3] m) (hsz : ∀ f, f ∈ m.funcs → Ybo f ≤ 2000000) :
  Calls Tryz.prog 7 #[m.v m1 m2 m3] w (SomeBit w):=by
 obtain⟨M1,v1,j1,M2,v2,j2,M3,v3,j3,hmf⟩:=Ycc ha
 obtain⟨e1,e2,e3⟩:=hmf
 subst e1 e2 e3
 obtain⟨A5,k5,hM3,hl5,gf⟩:=funs_at (Yby (RMod.later ha (Below.refl _ _) (Nat.le_refl _))).2.2
 have hv3:v3=m.funcs.length:=by cases hM3;rfl
 have hM3':M3=A5∧j3=k5:=by cases hM3;exact⟨rfl,rfl⟩
 obtain⟨e1,e2⟩:=hM3'
 subst e1 e2
 clear hM3
 rw [←hv3] at hl5 gf
 refine hd2 gf hv3 ?_;clear gf hv3;intro gf hv3
 obtain⟨W,hW,hwW,hWs,hx⟩:=Y6 w #[.slice M1 v1 j1, .slice M2 v2 j2, .slice M3 v3 j3] 26
 have p0:∀w',Below W.heap.size W w'→w'.cell? ⟨w.heap.size,0,none⟩=some (.slice M1 v1 j1):=hx 0 _ rfl
 have p1:∀w',Below W.heap.size W w'→w'.cell? ⟨w.heap.size,1,none⟩=some (.slice M2 v2 j2):=hx 1 _ rfl
 have p2:∀w',Below W.heap.size W w'→w'.cell? ⟨w.heap.size,2,none⟩=some (.slice M3 v3 j3):=hx 2 _ rfl
 clear hx
 have hws:w.heap.size≤W.heap.size:=by omega
 replace hsz:=hide hsz
 have hself:=Below.refl W.heap.size W
 have hwX:Hid (∀w',Below W.heap.size W w'→Below w.heap.size w w'):=hide (fun w' h=>hwW.trans (h.mono hws))
 have cF:Hid (∀w',Below W.heap.size W w'→Calls Tryz.prog 21 #[.agg #[.slice M1 v1 j1, .slice M2 v2 j2, .slice M3 v3 j3], .int .i64 1500] w' (SomeBit w')):=hide (fun w' h=>by
  obtain⟨g1,g2,g3⟩:=Yby (RMod.later ha (hwX.out w' h) (hwX.out w' h).size)
  exact few_any m.vars m.exts m.funcs 1500 _ _ _ w' w'.heap.size (Nat.le_refl _) g1 g2 g3)
 refine hd4 ha hWs hW hwW ?_;clear ha hWs hW hwW;intro ha hWs hW hwW
 go_enter Tryz.func7,Tryz.ntmps7
 go_upto_region 1 with(fail)
 rw [hW.out]
 clear hW
 go_wp2
 go_loopw [11] (fun s wr=>∃i:Nat,s = .int .i64 i∧i≤v3∧Below W.heap.size W wr) (fun s _=>v3 - (intOf s).toNat)
 case atStart=>exact⟨0,rfl,Nat.zero_le _,hself⟩
 case round =>
  clear hself
  rename World=>V
  obtain⟨i,rfl,hi,hbel⟩:=hrel
  have hVs:=hbel.size
  by_cases hlt:i<v3
  ·have hii : (i : Int) < (v3 : Int) := by omega
   obtain⟨f,hf⟩:=Yf (l:=m.funcs) (k:=i) (by rw [←hv3.out];exact hlt)
   obtain⟨b1,o1,hA1,he⟩:=gf.out (by omega)
   subst hA1
   obtain⟨cp,ep,hra,hc⟩:=he i f hf.out
   obtain⟨hrp,hrb'⟩:=Yk hra
   obtain⟨A1,k1,h1,hnp,gp⟩:=Rp.slice1_open hrp
   obtain⟨A2,k2,h2,hmb,gb⟩:=Rp.slice1_open hrb'
   cases h1;cases h2
   have hfz:=hide (hsz.out f (Jm hf.out))
   have hflat:Hid (f.blocks.flatten.length≤2000000):=hide (Nat.le_trans (Yac f) hfz.out)
   obtain⟨np,hnpe⟩:=Jn (f.params.length)
   obtain⟨N,hN⟩:=Jn (f.blocks.length)
   rw [←hnpe.out,←hN.out] at hc
   rw [←hN.out] at hmb gb
   refine hd2 gp gb ?_;clear gp gb;intro gp gb
   obtain⟨s0,s1,s2,s3⟩:=hc.four
   have s0:=s0 V (hwX.out V hbel)
   have s1:=s1 V (hwX.out V hbel)
   have s2:=s2 V (hwX.out V hbel)
   have s3:=s3 V (hwX.out V hbel)
   obtain⟨Z,hZ,hwZ,hZs,hzc⟩:=Y6 V #[.string f.name, .slice A1 np k1, .int .i64 f.ret, .slice A2 N k2] 32
   have t3:∀w',Below Z.heap.size Z w'→w'.cell? ⟨V.heap.size,3,none⟩=some (.slice A2 N k2):=hzc 3 _ rfl
   have hbZ:Below W.heap.size W Z:=hbel.trans (hwZ.mono hVs)
   have hZW:Hid (∀w',Below Z.heap.size Z w'→Below W.heap.size W w'):=hide (fun w' h=>hbZ.trans (h.mono hbZ.size))
   have hZw:Hid (∀w',Below Z.heap.size Z w'→Below w.heap.size w w'):=hide (fun w' h=>hwX.out w' (hZW.out w' h))
   have hselfZ:=Below.refl Z.heap.size Z
   have hm0:Hid (0=(f.blocks.take 0).flatten.length):=hide (by simp)
   refine hd6 hra hrp hrb' hwZ hZs hZ ?_;clear hra hrp hrb' hwZ hZs hZ;intro hra hrp hrb' hwZ hZs hZ
   clear he hc hzc
   go_upto_region 4 with(fail)
   rw [hZ.out]
   clear hZ s0 s1 s2 s3
   go_wp2
   go_loopw [5,18] (fun n s wr=>∃(k q:Nat),k≤N∧s = .int .i64 k∧n = .int .i64 q∧Hid (q=(f.blocks.take k).flatten.length)∧Below Z.heap.size Z wr) (fun _ s _=>N - (intOf s).toNat)
   case atStart=>exact⟨0,0,Nat.zero_le _,rfl,rfl,hm0,hselfZ⟩
   case round =>
    clear hselfZ hm0
    rename World=>V2
    obtain⟨k,q,hk,rfl,rfl,hq,hb2⟩:=hrel
    have hql:q≤2000000:=by
     have h1:=fz_le f.blocks k
     have h2:=hq.out
     have h3:=hflat.out
     omega
    by_cases hlt2:k<N
    ·have hki : (k : Int) < (N : Int) := by omega
     obtain⟨b2,o2,rfl,he1⟩:=gb.out (by omega)
     obtain⟨x,hx⟩:=Yf (l:=f.blocks) (k:=k) (by rw [←hN.out];exact hlt2)
     obtain⟨d1,hr1,hd1⟩:=he1 k x hx.out
     obtain⟨A3,c3,h3,hm3, -⟩:=Rp.slice_open hr1
     cases h3
     have hd1':=hd1 V2 (hZw.out V2 hb2)
     clear hd1 hr1 he1
     obtain⟨lx,hlx⟩:=Jn (x.length)
     rw [←hlx.out] at hd1'
     have hq2:Hid (q+lx=(f.blocks.take (k+1)).flatten.length):=hide (by rw [fz_succ hx.out,hq.out,hlx.out])
     have hql2:q+lx≤2000000:=by
      have h1:=fz_le f.blocks (k+1)
      have h2:=hq2.out
      have h3:=hflat.out
      omega
     go_wp2
     go_roundw
     case rel=>exact⟨k+1,q+lx,hlt2,by go_num,by go_num,hq2,hb2.alloc hb2.size _⟩
     case measure=>simp [intOf];omega
    ·have hbW2 := hZW.out V2 hb2
     by_cases hA:80<q
     ·have g1 : decide ((q : Int) > 80) = true := decide_eq_true (by omega)
      by_cases hB:q≤400
      ·have g2 : decide ((q : Int) ≤ 400) = true := decide_eq_true (by omega)
       have hfin:=hide (hwX.out V2 hbW2)
       go_wp2
       go_ret
       exact⟨true,rfl,hfin.out⟩
      ·have g2 : decide ((q : Int) ≤ 400) = false := decide_eq_false (by omega)
       go_wp2
       go_roundw
       case rel=>exact⟨i+1,by go_num,hlt,hbW2⟩
       case measure=>simp [intOf];omega
     ·have g1 : decide ((q : Int) > 80) = false := decide_eq_false (by omega)
      go_wp2
      go_roundw
      case rel=>exact⟨i+1,by go_num,hlt,hbW2⟩
      case measure=>simp [intOf];omega
  ·go_wp2_with (fail)
   refine(cF.out V hbel).mono ?_
   rintro e V4 ⟨bb,rfl,hb4⟩
   have hfin:Hid (∀w',Below V4.heap.size V4 w'→Below w.heap.size w w'):=hide (fun w' h=>(hwX.out V hbel).trans ((hb4.mono (hwX.out V hbel).size).trans (h.mono (Nat.le_trans (hwX.out V hbel).size hb4.size))))
   have hs4:=Below.refl V4.heap.size V4
   go_wp2
   go_ret
   exact⟨_,rfl,hfin.out _ hs4⟩
theorem five_alloc (w:World) (o0 o1 o2 o3 o4:Obj):∃W,((((w.alloc o0).alloc o1).alloc o2).alloc o3).alloc o4=W∧Below w.heap.size w W∧W.heap.size=w.heap.size+5∧W.heap[w.heap.size]? = some o0∧W.heap[w.heap.size+1]? = some o1∧W.heap[w.heap.size+1+1]? = some o2∧W.heap[w.heap.size+1+1+1]? = some o3∧W.heap[w.heap.size+1+1+1+1]? = some o4:=by
 refine⟨_,rfl,(((((Below.refl _ _).alloc (Nat.le_refl _) _).alloc (by simp) _).alloc (by simp<;>omega) _).alloc (by simp<;>omega) _).alloc (by simp<;>omega) _,by simp,?_,?_,?_,?_,?_⟩
 ·rw [heap_alloc_old _ o4 (by simp<;>omega),heap_alloc_old _ o3 (by simp<;>omega),heap_alloc_old _ o2 (by simp<;>omega),heap_alloc_old _ o1 (by simp)];exact box_at _ rfl
 ·rw [heap_alloc_old _ o4 (by simp<;>omega),heap_alloc_old _ o3 (by simp<;>omega),heap_alloc_old _ o2 (by simp)];exact box_at _ (by simp)
 ·rw [heap_alloc_old _ o4 (by simp<;>omega),heap_alloc_old _ o3 (by simp)];exact box_at _ (by simp)
 ·rw [heap_alloc_old _ o4 (by simp)];exact box_at _ (by simp)
 ·exact box_at _ (by simp)
theorem livesT_small:Zo Yax:=by
 refine⟨by decide,by decide,fun x hx => ?_⟩
 have h:∀x,x∈Ya0→x.length≤2000000∧∀i,i∈x→i.args.length≤2000000∧i.to.length≤2000000:=by decide
 exact h x hx
theorem retB_small:Zo (Ye Yax [retB]):=by
 refine⟨by decide,by decide,fun x hx => ?_⟩
 have h:∀x,x∈ [retB]→x.length≤2000000∧∀i,i∈x→i.args.length≤2000000∧i.to.length≤2000000:=by decide
 exact h x hx
theorem wf_small (bs:List (List Ins)) (h1:∀l,l∈bs→l≠ []) (h2:∀l,l∈bs→∀x,x∈l→x.op≠32∧x.op≠25∧(x.op=31→x.to.length=1)) (h3:∀l,l∈bs→∀x,x∈l→∀t,t∈x.to→0≤t∧t<bs.length):Wf bs:=fun l hl =>
 ⟨h1 l hl,fun x hx ho=>absurd ho (h2 l hl x hx).1,fun x hx ho=>(h2 l hl x hx).2.2 ho,fun x hx ho=>absurd ho (h2 l hl x hx).2.1,h3 l hl⟩
theorem fr_small (bs:List (List Ins)) (h2:∀l,l∈bs→∀x,x∈l→x.op≠25):∀l,l∈bs→Ycm l:=fun l hl i j x y hi hj hij ho=>absurd ho (h2 l hl y (Jm hj))
theorem Made.slices {M:Nat} {w:World} {f:Fun} {b:List Ins} {c d:Value} (h:Made M w f [b] c d):∃Ac nc Cc Ad Cd,c = .slice Ac nc Cc∧d = .slice Ad 1 Cd:=by
 obtain⟨T,N,h1, -⟩:=h
 obtain⟨A,C,h2⟩:=Yd h1.par.row
 obtain⟨xs,ess,hk, -⟩:=h1.tree
 obtain⟨A',C',h3⟩:=Yd hk.row
 exact⟨_,_,_,_,_,h2,h3⟩
theorem lives17_any (w:World):Calls Tryz.prog 6 #[] w (RetB true w):=by
 obtain ⟨W, hW, hwW, hWs, h0, h1, h2, h3, h4⟩ := five_alloc w (.cells #[.int .i64 1] 3) (.cells #[.int .i64 31, .int .i64 (-1), .int .i64 0, .int .i64 0, .int .i64 0, .slice none 0 0, .slice (some ⟨w.heap.size, 0, none⟩) 1 1] 44) (.cells #[.int .i64 33, .int .i64 (-1), .int .i64 0, .int .i64 0, .int .i64 0, .slice none 0 0, .slice none 0 0] 44)
  (.cells #[.slice (some ⟨w.heap.size+1,0,none⟩) 1 1, .slice (some ⟨w.heap.size+1+1,0,none⟩) 1 1] 41) (.cells #[.string ⟨#[102]⟩, .slice none 0 0, .int .i64 0, .slice (some ⟨w.heap.size+1+1+1,0,none⟩) 2 2] 32)
 have hK:OwnK W 0 (.slice (some ⟨w.heap.size+1+1+1,0,none⟩) 2 2) Ya0:=by
  refine⟨[.slice (some ⟨w.heap.size+1,0,none⟩) 1 1, .slice (some ⟨w.heap.size+1+1,0,none⟩) 1 1],rfl,⟨rfl, .inr ⟨_,2,_,rfl,Nat.zero_le _,h3,Nat.le_refl _,by simp [maxLen],rfl,rfl⟩⟩,fun i x b g1 g2 => ?_⟩
  match i with
  | 0 =>
   cases g1;cases g2
   refine⟨[insC ⟨31, -1,0,0,0, [], [1]⟩ (.slice none 0 0) (.slice (some ⟨w.heap.size,0,none⟩) 1 1)],rfl,⟨rfl, .inr ⟨_,1,_,rfl,Nat.zero_le _,h1,Nat.le_refl _,by simp [maxLen],rfl,rfl⟩⟩,fun j es x g3 g4 => ?_⟩
   cases j with
   | zero =>
    cases g3;cases g4
    exact⟨_,_,rfl,OwnV.nil_,⟨⟨rfl, .inr ⟨_,1,_,rfl,Nat.zero_le _,h0,Nat.le_refl _,by simp [maxLen],rfl,rfl⟩⟩,fun t ht=>by rw [List.mem_singleton.1 ht];decide⟩,(by show I64 31;decide),(by show I64 (-1);decide),(by show I64 0;decide),(by show I64 0;decide),(by show I64 0;decide)⟩
   | succ j=>simp at g3
  | 1 =>
   cases g1;cases g2
   refine⟨[insC ⟨33, -1,0,0,0, [], []⟩ (.slice none 0 0) (.slice none 0 0)],rfl,⟨rfl, .inr ⟨_,1,_,rfl,Nat.zero_le _,h2,Nat.le_refl _,by simp [maxLen],rfl,rfl⟩⟩,fun j es x g3 g4 => ?_⟩
   cases j with
   | zero =>
    cases g3;cases g4
    exact⟨_,_,rfl,OwnV.nil_,OwnI.nil_,(by show I64 33;decide),(by show I64 (-1);decide),(by show I64 0;decide),(by show I64 0;decide),(by show I64 0;decide)⟩
   | succ j=>simp at g3
  | i+2=>simp at g1
 have hf:RFun.rep W W.heap.size [.string Yax.name, .slice none 0 0, .int .i64 Yax.ret, .slice (some ⟨w.heap.size+1+1+1,0,none⟩) 2 2] Yax:=⟨_,_,rfl,OwnI.nil_.rep (B:=0),hK.rep,by decide,by decide⟩
 obtain⟨n0,n1,n2,n3⟩:=bx4 h4
 have cS:Hid (Calls Tryz.prog 10 #[.agg #[.string ⟨#[102]⟩, .slice none 0 0, .int .i64 0, .slice (some ⟨w.heap.size+1+1+1,0,none⟩) 2 2]] W (fun e w'=>∃c d,e = .returned (.tuple #[.agg #[.string ⟨#[102]⟩,c, .int .i64 0,d], .bool true])∧Made W.heap.size w' Yax [retB] c d∧Below W.heap.size W w')):=hide (by
  have h9:=tstep_any Yax (.slice none 0 0) (.slice (some ⟨w.heap.size+1+1+1,0,none⟩) 2 2) W W.heap.size (Nat.le_refl _) hf livesT_small (wf_small Ya0 (by decide) (by decide) (by decide)) (fr_small Ya0 (by decide))
  refine h9.mono fun e w' hp => ?_
  obtain⟨c,d,g1,g2,g3⟩:=hp.made (bs:=Ya0) (f:=Yax) (M:=W.heap.size) (Nat.le_refl _)
  rw [livesT_step] at g1 g2
  exact⟨c,d,g1,g2,g3⟩)
 have cS2:Hid (∀(c d:Value) (w' w9:World),Made W.heap.size w9 Yax [retB] c d→Below w9.heap.size w9 w'→W.heap.size≤w9.heap.size→Calls Tryz.prog 10 #[.agg #[.string ⟨#[102]⟩,c, .int .i64 0,d]] w' (fun e w''=>∃c d,e = .returned (.tuple #[.agg #[.string ⟨#[102]⟩,c, .int .i64 0,d], .bool false])∧Made W.heap.size w'' Yax [retB] c d∧Below w'.heap.size w' w'')):=hide (fun c d w' w9 hm hb hs=>by
  have hm':=hm.kept (w':=w') fun k _ hk=>hb.block k hk
  have h9:=tstep_any (Ye Yax [retB]) c d w' w'.heap.size (Nat.le_refl _) hm'.rep retB_small (wf_small [retB] (by decide) (by decide) (by decide)) (fr_small [retB] (by decide))
  refine h9.mono fun e w'' hp => ?_
  obtain⟨c,d,g1,g2,g3⟩:=hp.made (bs := [retB]) (f:=Yax) (M:=W.heap.size) (Nat.le_trans hs hb.size)
  rw [retB_step] at g1 g2
  exact⟨c,d,g1,g2,g3⟩)
 have hself:=Below.refl w.heap.size w
 refine hd3 hwW hWs hW ?_;clear hwW hWs hW;intro hwW hWs hW
 clear h0 h1 h2 h3 h4 hK hf
 go_enter Tryz.func6,Tryz.ntmps6
 go_upto_region 2 with(fail)
 rw [hW.out]
 clear hW
 go_wp2_with (fail)
 refine cS.out.mono ?_
 rintro e w1 ⟨c,d,rfl,hm1,hb1⟩
 obtain⟨Ac,nc,Cc,Ad,Cd,hcf,hdf⟩:=hm1.slices
 subst hcf hdf
 obtain⟨X,hX,hwX,hXs,hx⟩:=Y6 w1 #[.string ⟨#[102]⟩, .slice Ac nc Cc, .int .i64 0, .slice Ad 1 Cd] 32
 have x0:=hx 0 _ rfl X (Below.refl _ _)
 have x1:=hx 1 _ rfl X (Below.refl _ _)
 have x2:=hx 2 _ rfl X (Below.refl _ _)
 have x3:=hx 3 _ rfl X (Below.refl _ _)
 have hbX:Hid (Below w.heap.size w X):=hide (hwW.out.trans ((hb1.mono hwW.out.size).trans (hwX.mono (Nat.le_trans hwW.out.size hb1.size))))
 have cS3:Hid (Calls Tryz.prog 10 #[.agg #[.string ⟨#[102]⟩, .slice Ac nc Cc, .int .i64 0, .slice Ad 1 Cd]] X _):=hide (cS2.out _ _ X w1 hm1 hwX hb1.size)
 refine hd5 hm1 hb1 hX hXs hwX ?_;clear hm1 hb1 hX hXs hwX;intro hm1 hb1 hX hXs hwX
 clear cS cS2 n0 n1 n2 n3 hself
 go_upto_region 3 with(fail)
 rw [hX.out]
 go_wp2_with (fail)
 refine cS3.out.mono ?_
 rintro e w2 ⟨c2,d2,rfl,hm2,hb2⟩
 obtain⟨Ac2,nc2,Cc2,Ad2,Cd2,hcf,hdf⟩:=hm2.slices
 subst hcf hdf
 obtain⟨Y,hY,hwY,hYs,hy⟩:=Y6 w2 #[.string ⟨#[102]⟩, .slice Ac2 nc2 Cc2, .int .i64 0, .slice Ad2 1 Cd2] 32
 have y0:=hy 0 _ rfl Y (Below.refl _ _)
 have y1:=hy 1 _ rfl Y (Below.refl _ _)
 have y2:=hy 2 _ rfl Y (Below.refl _ _)
 have y3:=hy 3 _ rfl Y (Below.refl _ _)
 have hb2X:Below X.heap.size X Y:=hb2.trans (hwY.mono hb2.size)
 have z3:=hx 3 _ rfl Y hb2X
 have hbY:Hid (Below w.heap.size w Y):=hide (hbX.out.trans (hb2X.mono hbX.out.size))
 have cZ:Hid (Calls Tryz.prog 20 #[.agg #[.string ⟨#[102]⟩, .slice Ac2 nc2 Cc2, .int .i64 0, .slice Ad2 1 Cd2]] Y fun e w'=>e = .returned (.int .i64 1)∧Below Y.heap.size Y w'):=hide (by
  have hm':=hm2.kept (w':=Y) fun k _ hk=>hwY.block k hk
  obtain⟨g1,g2⟩:=Yk (x:=Ye Yax [retB]) hm'.rep
  exact isz_any (Ye Yax [retB]) _ _ Y Y.heap.size (Nat.le_refl _) g1 g2 (by decide))
 refine hd6 hm2 hb2 hb2X hY hYs hwY ?_;clear hm2 hb2 hb2X hY hYs hwY;intro hm2 hb2 hb2X hY hYs hwY
 clear hx hy x0 x1 x2 x3 cS3
 go_upto_region 4 with(fail)
 rw [hY.out]
 go_wp2_with (fail)
 refine cZ.out.mono ?_
 rintro e w3 ⟨rfl,hb3⟩
 have hfin:=hide (hbY.out.trans (hb3.mono hbY.out.size))
 go_wp2
 go_ret
 exact⟨rfl,hfin.out⟩
theorem right_fun17 {m:Mod} {f:Fun} (h:rightB m=true) (hf:f∈m.funcs):Qs m f:=by
 obtain⟨i,hi⟩:=List.mem_iff_getElem?.1 hf
 exact(dec8_iff.1 h).2 i f hi
theorem opdok_kok {m:Mod} {f:Fun} {v:Opd} {want:Int} (h:OpdOk m f v want):KOk v:=by
 unfold OpdOk at h
 split at h
 ·rename_i h1
  exact⟨by omega,fun _=>h.1⟩
 ·rename_i h1
  refine⟨fun e => ?_,fun e=>absurd e h1⟩
  rw [e] at h
  simp at h
theorem fun_kinv {m:Mod} {f:Fun} (h:Qs m f) (hs:Zo f):KInv f.blocks:=by
 have ht:=fun_tinv h hs
 obtain⟨⟨⟨-,h2, -⟩, -⟩, -, -,ho, -⟩:=h
 refine⟨ht,fun l hl x hx a ha => ?_,by omega⟩
 obtain⟨b,hb⟩:=List.mem_iff_getElem?.1 hl
 obtain⟨k,hk⟩:=List.mem_iff_getElem?.1 hx
 obtain⟨j,hj⟩:=List.mem_iff_getElem?.1 ha
 exact opdok_kok (ho _ x _ (flat_at hb hk) (place_at hb hk) j a hj)
def SlOk (S:Nat→Nat→Prop) (w:World) (T:TypeId) (size:Nat) (u:Value):Prop :=
 ∃A n C,u = .slice A n C∧n≤2000000∧(0<n→∃g m,A=some ⟨g,0,none⟩∧S g m∧n*size≤m∧∃c,w.heap[g]? = some (.cells c T (0,0)))
def CellOk (S:Nat→Nat→Prop) (w:World) (t:TypeId) (j:Nat) (u:Value):Prop :=
 (t = 41 →SlOk S w 44 7 u)∧(t = 44 →(j % 7=5→SlOk S w 62 3 u)∧(j % 7=6→SlOk S w 3 1 u)∧(j % 7<5→∃z,u = .int .i64 z))∧
 (t = 32 →(j % 4=1→SlOk S w 3 1 u)∧(j % 4=3→SlOk S w 41 1 u)∧(j % 4=0→∃s,u = .string s)∧(j % 4=2→∃z,u = .int .i64 z))∧(t = 77 →j % 3=1→SlOk S w 3 1 u)
structure Sh (S : Nat → Nat → Prop) (w : World) : Prop where
 at_:∀k m,S k m→∃c t,w.heap[k]? = some (.cells c t (0,0))∧m≤c.size∧∀j u,j<m→c[j]? = some u→CellOk S w t j u
def Dm (S:Nat→Nat→Prop) (k:Nat):Prop:=∃m,S k m
def Ty (S:Nat→Nat→Prop) (w w':World):Prop:=∀k m,S k m→∀c t,w.heap[k]? = some (.cells c t (0,0))→∃c',w'.heap[k]? = some (.cells c' t (0,0))∧c'.size=c.size
section
variable {S:Nat→Nat→Prop} {w w':World}
theorem SlOk.later {T:TypeId} {size:Nat} {u:Value} (h:SlOk S w T size u) (ht:Ty S w w'):SlOk S w' T size u:=by
 obtain⟨A,n,C,h1,h2,h3⟩:=h
 refine⟨A,n,C,h1,h2,fun hn => ?_⟩
 obtain⟨g,m,h4,h5,h6,c,h7⟩:=h3 hn
 obtain⟨c',h8, -⟩:=ht g m h5 c T h7
 exact⟨g,m,h4,h5,h6,c',h8⟩
theorem CellOk.later {t:TypeId} {j:Nat} {u:Value} (h:CellOk S w t j u) (ht:Ty S w w'):CellOk S w' t j u :=
 ⟨fun e=>(h.1 e).later ht,fun e=>⟨fun e'=>((h.2.1 e).1 e').later ht,fun e'=>((h.2.1 e).2.1 e').later ht,(h.2.1 e).2.2⟩,
  fun e=>⟨fun e'=>((h.2.2.1 e).1 e').later ht,fun e'=>((h.2.2.1 e).2.1 e').later ht,(h.2.2.1 e).2.2⟩,fun e e'=>(h.2.2.2 e e').later ht⟩
theorem SlOk.none_ {T:TypeId} {size:Nat}:SlOk S w T size (.slice none 0 0):=⟨none,0,0,rfl,Nat.zero_le _,fun h=>absurd h (Nat.lt_irrefl _)⟩
theorem Sh.lt (h:Sh S w) {k:Nat} (hk:Dm S k):k<w.heap.size:=by
 obtain⟨m,hm⟩:=hk
 obtain⟨c,t,h1, -⟩:=h.at_ k m hm
 exact(Array.getElem?_eq_some_iff.1 h1).1
theorem Sh.kept (h:Sh S w) (hk:∀k,Dm S k→w'.heap[k]? = w.heap[k]?):Sh S w':=by
 have ht:Ty S w w':=fun k m hs c t hc=>⟨c,(hk k ⟨m,hs⟩).trans hc,rfl⟩
 refine⟨fun k m hs => ?_⟩
 obtain⟨c,t,h1,h2,h3⟩:=h.at_ k m hs
 exact⟨c,t,(hk k ⟨m,hs⟩).trans h1,h2,fun j u hj hu=>(h3 j u hj hu).later ht⟩
theorem Sh.set (h:Sh S w) {g j:Nat} {c:Array Value} {t:TypeId} {v:Value} (hg:w.heap[g]? = some (.cells c t (0,0))) (hv:CellOk S w t j v):Sh S (w.setCell ⟨g,j,none⟩ v):=by
 have hset:=Yr (j:=j) (v:=v) hg
 have ht:Ty S w (w.setCell ⟨g,j,none⟩ v):=fun k m hs c' t' hc=>by
  by_cases e:k=g
  ·subst e
   rw [hg] at hc
   cases hc
   exact⟨_,hset,by simp⟩
  ·exact⟨c',(Below.heap_setCell _ _ _ _ e).trans hc,rfl⟩
 refine⟨fun k m hs => ?_⟩
 obtain⟨c',t',h1,h2,h3⟩:=h.at_ k m hs
 by_cases e:k=g
 ·subst e
  rw [hg] at h1
  cases h1
  refine⟨_,t,hset,by simpa using h2,fun j' u hj hu => ?_⟩
  rw [Array.getElem?_setIfInBounds] at hu
  split at hu
  ·rename_i e
   subst e
   split at hu
   ·cases hu;exact hv.later ht
   ·cases hu
  ·exact(h3 j' u hj hu).later ht
 ·exact⟨c',t',(Below.heap_setCell _ _ _ _ e).trans h1,h2,fun j' u hj hu=>(h3 j' u hj hu).later ht⟩
theorem cellOk_value {j:Nat} {v:Value}:CellOk S w 62 j v:=⟨fun e=>absurd e (by decide),fun e=>absurd e (by decide),fun e=>absurd e (by decide),fun e=>absurd e (by decide)⟩
theorem cellOk_int {j:Nat} {v:Value}:CellOk S w 3 j v:=⟨fun e=>absurd e (by decide),fun e=>absurd e (by decide),fun e=>absurd e (by decide),fun e=>absurd e (by decide)⟩
theorem cellOk_block {j:Nat} {v:Value} (h:SlOk S w 44 7 v):CellOk S w 41 j v:=⟨fun _=>h,fun e=>absurd e (by decide),fun e=>absurd e (by decide),fun e=>absurd e (by decide)⟩
theorem Yaa {j:Nat} {v:Value} (h5:j % 7=5→SlOk S w 62 3 v) (h6:j % 7=6→SlOk S w 3 1 v) (h0:j % 7<5→∃z,v = .int .i64 z):CellOk S w 44 j v:=⟨fun e=>absurd e (by decide),fun _=>⟨h5,h6,h0⟩,fun e=>absurd e (by decide),fun e=>absurd e (by decide)⟩
theorem Sh.cells (h:Sh S w) {g m:Nat} {T:TypeId} {c0:Array Value} (hs:S g m) (hc:w.heap[g]? = some (.cells c0 T (0,0))):m≤c0.size∧∀j,j<m→∃u,w.cell? ⟨g,j,none⟩=some u∧CellOk S w T j u:=by
 obtain⟨c,t,h1,h2,h3⟩:=h.at_ g m hs
 rw [hc] at h1
 cases h1
 refine⟨h2,fun j hj => ?_⟩
 have hu:c0[j]? = some (c0[j]'(by omega)):=Array.getElem?_eq_getElem _
 exact⟨_,by simp [World.cell?,hc,hu],h3 j _ hj hu⟩
end
def Fine (w:World) (B:Nat) (T:TypeId) (size:Nat) (Q:Array Value→Nat→Prop) (u:Value):Prop :=
 ∃A n C,u = .slice A n C∧n≤2000000∧(0<n→∃g c,A=some ⟨g,0,none⟩∧B≤g∧w.heap[g]? = some (.cells c T (0,0))∧n*size≤c.size∧Q c (n*size))
def QI (w:World) (B:Nat) (c:Array Value) (m:Nat):Prop:=∀j u,j<m→c[j]? = some u→(j % 7=5→Fine w B 62 3 (fun _ _=>True) u)∧(j % 7=6→Fine w B 3 1 (fun _ _=>True) u)∧(j % 7<5→∃z,u = .int .i64 z)
def QB (w:World) (B:Nat) (c:Array Value) (m:Nat):Prop:=∀j u,j<m→c[j]? = some u→Fine w B 44 7 (QI w B) u
def QF (w:World) (B:Nat) (c:Array Value) (m:Nat):Prop:=∀j u,j<m→c[j]? = some u→(j % 4=1→Fine w B 3 1 (fun _ _=>True) u)∧(j % 4=3→Fine w B 41 1 (QB w B) u)∧(j % 4=0→∃s,u = .string s)∧(j % 4=2→∃z,u = .int .i64 z)
def QE (w:World) (B:Nat) (c:Array Value) (m:Nat):Prop:=∀j u,j<m→c[j]? = some u→(j % 3=1→Fine w B 3 1 (fun _ _=>True) u)
def FineS (w:World) (B:Nat) (k m:Nat):Prop:=B≤k∧∃c t,w.heap[k]? = some (.cells c t (0,0))∧m≤c.size∧(t = 44 →QI w B c m)∧(t = 41 →QB w B c m)∧(t = 32 →QF w B c m)∧(t = 77 →QE w B c m)
section
variable {w:World} {B:Nat}
theorem Fine.sl {T : TypeId} {size : Nat} {Q : Array Value → Nat → Prop} {u : Value} (h : Fine w B T size Q u)
  (h1:T = 44 →∀c m,Q c m→QI w B c m) (h2:T = 41 →∀c m,Q c m→QB w B c m) (h3:T = 32 →∀c m,Q c m→QF w B c m) (h4:T = 77 →∀c m,Q c m→QE w B c m):SlOk (FineS w B) w T size u:=by
 obtain⟨A,n,C,e,hn,g⟩:=h
 refine⟨A,n,C,e,hn,fun h0 => ?_⟩
 obtain⟨g,c,g1,g2,g3,g4,g5⟩:=g h0
 exact⟨g,n*size,g1,⟨g2,c,T,g3,g4,fun e=>h1 e c _ g5,fun e=>h2 e c _ g5,fun e=>h3 e c _ g5,fun e=>h4 e c _ g5⟩,Nat.le_refl _,c,g3⟩
theorem Fine.int_ {u:Value} (h:Fine w B 3 1 (fun _ _=>True) u):SlOk (FineS w B) w 3 1 u:=h.sl (fun e=>absurd e (by decide)) (fun e=>absurd e (by decide)) (fun e=>absurd e (by decide)) (fun e=>absurd e (by decide))
theorem Fine.value {u:Value} (h:Fine w B 62 3 (fun _ _=>True) u):SlOk (FineS w B) w 62 3 u:=h.sl (fun e=>absurd e (by decide)) (fun e=>absurd e (by decide)) (fun e=>absurd e (by decide)) (fun e=>absurd e (by decide))
theorem Fine.code {u:Value} (h:Fine w B 44 7 (QI w B) u):SlOk (FineS w B) w 44 7 u:=h.sl (fun _ _ _ h=>h) (fun e=>absurd e (by decide)) (fun e=>absurd e (by decide)) (fun e=>absurd e (by decide))
theorem Fine.blocks {u:Value} (h:Fine w B 41 1 (QB w B) u):SlOk (FineS w B) w 41 1 u:=h.sl (fun e=>absurd e (by decide)) (fun _ _ _ h=>h) (fun e=>absurd e (by decide)) (fun e=>absurd e (by decide))
theorem fineS_sh (w:World) (B:Nat):Sh (FineS w B) w:=by
 refine⟨fun k m hs => ?_⟩
 obtain⟨hB,c,t,h1,h2,h3,h4,h5,h6⟩:=hs
 refine⟨c,t,h1,h2,fun j u hj hu=>⟨fun e=>(h4 e j u hj hu).code,fun e=>⟨fun e'=>((h3 e j u hj hu).1 e').value,fun e'=>((h3 e j u hj hu).2.1 e').int_,(h3 e j u hj hu).2.2⟩,fun e=>⟨fun e'=>((h5 e j u hj hu).1 e').int_,fun e'=>((h5 e j u hj hu).2.1 e').blocks,(h5 e j u hj hu).2.2⟩,fun e e'=>(h6 e j u hj hu e').int_⟩⟩
theorem fineS_le {k:Nat} (h:Dm (FineS w B) k):B≤k∧k<w.heap.size:=by
 obtain⟨m,h1,c,t,h2, -⟩:=h
 exact⟨h1,(Array.getElem?_eq_some_iff.1 h2).1⟩
theorem fine_row {T:TypeId} {size n:Nat} {u:Value} {xs:List Value} {Q:Array Value→Nat→Prop} (h:w.ownsRow B T size u n xs) (hn:n≤2000000) (hQ:∀c,(∀j v,j<n*size→c[j]? = some v→xs[j]? = some v)→Q c (n*size)):Fine w B T size Q u:=by
 rcases h.2 with⟨rfl,rfl⟩|⟨g,cap,cur,rfl,h1,h2,h3,h4,h5,h6⟩
 ·exact⟨none,0,0,rfl,Nat.zero_le _,fun h=>absurd h (Nat.lt_irrefl _)⟩
 ·refine ⟨_, n, cap, rfl, hn, fun h0 => ⟨g, cur, rfl, h1, h2, by rw [h5]; exact Nat.mul_le_mul_right _ h3, hQ cur fun j v hj hv => ?_⟩⟩
  rw [←h6,List.getElem?_take_of_lt hj,Array.getElem?_toList]
  exact hv
theorem OwnI.fine {l:List Int} {v:Value} (h:OwnI w B v l) (hl:l.length≤2000000):Fine w B 3 1 (fun _ _=>True) v:=fine_row h.row hl fun _ _=>trivial
theorem OwnV.fine {l:List Opd} {v:Value} (h:OwnV w B v l) (hl:l.length≤2000000):Fine w B 62 3 (fun _ _=>True) v:=fine_row h.row hl fun _ _=>trivial
theorem fine_insC {x : Ins} {c d u : Value} {j : Nat} (hc : OwnV w B c x.args) (hd : OwnI w B d x.to) (h1 : x.args.length ≤ 2000000) (h2 : x.to.length ≤ 2000000) (hu : (insC x c d)[j]? = some u) :
  (j=5→Fine w B 62 3 (fun _ _=>True) u)∧(j=6→Fine w B 3 1 (fun _ _=>True) u)∧(j<5→∃z,u = .int .i64 z):=by
 refine⟨fun e => ?_,fun e => ?_,fun e => ?_⟩
 ·subst e;cases hu;exact hc.fine h1
 ·subst e;cases hu;exact hd.fine h2
 ·match j,e with
  | 0,_=>cases hu;exact⟨_,rfl⟩
  | 1,_=>cases hu;exact⟨_,rfl⟩
  | 2,_=>cases hu;exact⟨_,rfl⟩
  | 3,_=>cases hu;exact⟨_,rfl⟩
  | 4,_=>cases hu;exact⟨_,rfl⟩
theorem flat7 : ∀ (ess : List (List Value)), (∀ es, es ∈ ess → es.length = 7) → ∀ j u, ess.flatten[j]? = some u → ∃ es, ess[j / 7]? = some es ∧ es[j % 7]? = some u
 | [],_,j,u,h=>by simp at h
 | e :: ess,hl,j,u,h=>by
  have he:=hl e (List.mem_cons_self ..)
  rw [List.flatten_cons] at h
  rcases Nat.lt_or_ge j 7 with h7|h7
  ·rw [List.getElem?_append_left (by omega)] at h
   exact⟨e,by rw [Nat.div_eq_of_lt h7];rfl,by rw [Nat.mod_eq_of_lt h7];exact h⟩
  ·rw [List.getElem?_append_right (by omega), he] at h
   obtain⟨es,h1,h2⟩:=flat7 ess (fun es hes=>hl es (List.mem_cons_of_mem _ hes)) (j - 7) u h
   obtain⟨n,rfl⟩:∃n,j=n+7:=⟨j - 7,by omega⟩
   refine⟨es,?_,?_⟩
   ·rw [show(n+7) / 7=n / 7+1 by omega,List.getElem?_cons_succ];simpa using h1
   ·rw [show(n+7) % 7=n % 7 by omega];simpa using h2
theorem OwnC.fine {l:List Ins} {v:Value} (h:OwnC w B v l) (hl:l.length≤2000000) (hi:∀i,i∈l→i.args.length≤2000000∧i.to.length≤2000000):Fine w B 44 7 (QI w B) v:=by
 obtain⟨ess,h1,h2,h3⟩:=h
 have h7:∀es,es∈ess→es.length=7:=fun es hes=>by
  obtain⟨i,hi'⟩:=List.getElem?_of_mem hes
  have hil:=(Js.1 hi').1
  obtain⟨c,d,e, -⟩:=h3 i es _ hi' (Jg (by omega))
  rw [e];rfl
 refine fine_row h2 hl fun c hc j u hj hu => ?_
 obtain⟨es,g1,g2⟩:=flat7 ess h7 j u (hc j u hj hu)
 have hil:=(Js.1 g1).1
 have hx:l[j / 7]? = some (l[j / 7]'(by omega)):=Jg _
 obtain⟨cv,dv,e,hv,hd, -⟩:=h3 _ es _ g1 hx
 subst e
 have hm:=hi _ (Jm hx)
 exact fine_insC hv hd hm.1 hm.2 g2
theorem OwnK.fine {bs:List (List Ins)} {v:Value} (h:OwnK w B v bs) (hl:bs.length≤2000000) (hi:∀x,x∈bs→x.length≤2000000∧∀i,i∈x→i.args.length≤2000000∧i.to.length≤2000000):Fine w B 41 1 (QB w B) v:=by
 obtain⟨xs,h1,h2,h3⟩:=h
 refine fine_row h2 hl fun c hc j u hj hu => ?_
 have hx:=hc j u hj hu
 have hil:=(Js.1 hx).1
 have hb:bs[j]? = some (bs[j]'(by omega)):=Jg _
 have hm:=hi _ (Jm hb)
 exact(h3 j u _ hx hb).fine hm.1 hm.2
end
end Go.Proofs.YtamjcafjdioidaaGreat
