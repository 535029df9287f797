/- Texts of the chain, without what is not wanted: DoB, GrJ, GrNf, TdC, DoD, DoG, DoJ. No condition but sizes. -/
import Derived.Test.YtamjcafjdioidaaGreatUw06
set_option linter.unusedVariables false
set_option linter.unusedSimpArgs false
set_option maxRecDepth 100000
set_option maxHeartbeats 12800000
namespace Go.Proofs.YtamjcafjdioidaaGreat
section
variable {sc:Int→List Int} {rk:Int→Nat} {c x b:Int} {j k:Nat}
theorem RchW.free_ne (h:RchW sc c x):x≠c:=by
 cases h with
 | start h=>exact fun e=>h e.symm
 | step _ _ h=>exact h
end
def Q3 (succ:Int→List Int) (t:Int) (b:Nat):List Int:=((List.range b).filter fun(x:Nat)=>decide (t∈succ (x:Int))).map Int.ofNat
def Yy (succ:Int→List Int) (n b i:Nat):List (List Int):=(List.range n).map fun(t:Nat)=>Q3 succ t b++(if (t:Int)∈(succ b).take i then [(b:Int)] else [])
def Zw (succ:Int→List Int) (n:Nat):List (List Int):=(List.range n).map fun(t:Nat)=>Q3 succ t n
theorem Qc (succ:Int→List Int) (n b i:Nat):(Yy succ n b i).length=n:=by simp [Yy]
theorem predsL_len (succ:Int→List Int) (n:Nat):(Zw succ n).length=n:=by simp [Zw]
theorem predsPart_end (succ:Int→List Int) (n b:Nat):Yy succ n b (succ b).length=Yy succ n (b+1) 0:=by
 unfold Yy
 refine List.map_congr_left fun t _ => ?_
 have e0:¬(t:Int)∈(succ ((b+1:Nat):Int)).take 0:=by rw [List.take_zero];intro h;cases h
 rw [List.take_length,if_neg e0,List.append_nil]
 unfold Q3
 rw [List.range_succ,List.filter_append,List.map_append]
 congr 1
 by_cases h:(t:Int)∈succ b
 ·rw [if_pos h];simp [h]
 ·rw [if_neg h];simp [h]
theorem predsPart_start (succ:Int→List Int) (n:Nat):Yy succ n 0 0=List.replicate n []:=by
 refine List.ext_getElem (by simp [Yy]) fun k h1 h2 => ?_
 simp [Yy,Q3]
theorem predsPart_last (succ:Int→List Int) (n:Nat):Yy succ n n 0=Zw succ n:=by
 unfold Yy Zw
 refine List.map_congr_left fun t _ => ?_
 simp
theorem predsPart_step {succ : Int → List Int} {n b i t : Nat} (hs : (succ b).Nodup) (ht : (succ b)[i]? = some (t : Int)) (htn : t < n) {p : List Int} (hp : (Yy succ n b i)[t]? = some p) :
  (Yy succ n b i).set t (p ++ [(b:Int)])=Yy succ n b (i+1):=by
 have htk:(t:Int)∉(succ b).take i:=fun hm=>by
  obtain⟨j,hj⟩:=List.getElem?_of_mem hm
  rw [List.getElem?_take] at hj
  split at hj
  ·rename_i hji
   obtain⟨h1,h2⟩:=Js.1 ht
   obtain⟨h3,h4⟩:=Js.1 hj
   exact(List.pairwise_iff_getElem.1 hs) j i h3 h1 hji (h4.trans h2.symm)
  ·cases hj
 have hpe:p=Q3 succ t b:=by
  unfold Yy at hp
  rw [List.getElem?_map,List.getElem?_range htn] at hp
  simp only [Option.map_some,Option.some.injEq] at hp
  rw [if_neg htk,List.append_nil] at hp
  exact hp.symm
 subst hpe
 have htake:(succ b).take (i+1)=(succ b).take i ++ [(t:Int)]:=by rw [List.take_add_one,ht];rfl
 refine List.ext_getElem? fun k => ?_
 by_cases hk:t=k
 ·subst hk
  rw [Jf (by rw [Qc];exact htn)]
  unfold Yy
  rw [List.getElem?_map,List.getElem?_range htn]
  simp only [Option.map_some]
  rw [htake,if_pos (by simp)]
 ·rw [Je hk]
  unfold Yy
  rw [List.getElem?_map,List.getElem?_map]
  by_cases hkn:k<n
  ·rw [List.getElem?_range hkn]
   simp only [Option.map_some]
   have:((k:Int)∈(succ b).take (i+1))↔(k:Int)∈(succ b).take i:=by rw [htake];simp;omega
   simp only [this]
  ·rw [List.getElem?_eq_none (by simpa using hkn)];rfl
theorem predsPart_at_len {succ:Int→List Int} {n b i t:Nat} {p:List Int} (hp:(Yy succ n b i)[t]? = some p):p.length≤b+1:=by
 have htn:t<n:=by have:=(Js.1 hp).1;rwa [Qc] at this
 unfold Yy at hp
 rw [List.getElem?_map,List.getElem?_range htn] at hp
 simp only [Option.map_some,Option.some.injEq] at hp
 subst hp
 have h1:(Q3 succ t b).length≤b:=by
  unfold Q3
  rw [List.length_map]
  exact Nat.le_trans (List.length_filter_le _ _) (by simp)
 rw [List.length_append]
 split
 ·simp;omega
 ·simp;omega
theorem predsL_mem {succ:Int→List Int} {n:Nat} {t:Nat} {p:List Int} (hp:(Zw succ n)[t]? = some p) (x:Int):x∈p↔(0≤x∧x<n∧(t:Int)∈succ x):=by
 have ht:t<n:=by have:=(Js.1 hp).1;rwa [predsL_len] at this
 unfold Zw at hp
 rw [List.getElem?_map,List.getElem?_range ht] at hp
 simp only [Option.map_some,Option.some.injEq] at hp
 subst hp
 unfold Q3
 simp only [List.mem_map,List.mem_filter,List.mem_range,decide_eq_true_eq]
 constructor
 ·rintro ⟨a, ⟨h1, h2⟩, rfl⟩
  exact⟨by simp,by simpa using h1,h2⟩
 ·rintro ⟨h1, h2, h3⟩
  refine⟨x.toNat,⟨by omega,by rwa [Int.toNat_of_nonneg h1]⟩,by simp [Int.toNat_of_nonneg h1]⟩
def upF (l:List Int):Int→Int:=fun b=>if 0≤b then l.getD b.toNat (-1) else -1
open Go.RowKit
structure OwnL (w : World) (B : Nat) (no : Option Nat) (v : Value) (ls : List (List Int)) (cs : List Value) : Prop where
 row:w.ownsRow B 29 1 v ls.length cs
 inn:∀(i:Nat) c l,cs[i]? = some c→ls[i]? = some l→OwnI w B c l
 apart:∀(i j:Nat) ci cj k,cs[i]? = some ci→cs[j]? = some cj→i≠j→ci.ownBlock=some k→cj.ownBlock≠some k
 far:∀(i:Nat) c k,cs[i]? = some c→no=some k→c.ownBlock≠some k
section
variable {w w':World} {no no':Option Nat} {v:Value} {ls:List (List Int)} {cs:List Value} {B B':Nat}
theorem OwnL.len (h:OwnL w B no v ls cs):cs.length=ls.length:=by have:=h.row.1;omega
theorem OwnL.at_ (h:OwnL w B no v ls cs) {i:Nat} {l:List Int} (hi:ls[i]? = some l):∃c,cs[i]? = some c∧OwnI w B c l:=by
 have h1:=(Js.1 hi).1
 have h2:i<cs.length:=by rw [h.len];exact h1
 exact⟨_,Jg h2,h.inn i _ l (Jg h2) hi⟩
theorem OwnL.below_at (h:OwnL w B no v ls cs) {i:Nat} {c:Value} {k:Nat} (hc:cs[i]? = some c) (hk:c.ownBlock=some k):B≤k∧k<w.heap.size∧∃a,w.heap[k]? = some (.cells a 3 (0,0)):=by
 have h1:=(Js.1 hc).1
 rw [h.len] at h1
 exact Ya (h.inn i c _ hc (Jg h1)).row hk
theorem OwnL.below (h:OwnL w B no v ls cs) (hb:Below w.heap.size w w'):OwnL w' B no v ls cs :=
 ⟨Yc h.row fun k hk=>hb.block k (Ya h.row hk).2.1,fun i c l hc hl=>(h.inn i c l hc hl).kept fun k _ hk=>hb.block k hk,h.apart,h.far⟩
theorem OwnL.mono (h:OwnL w B no v ls cs) (hb:B'≤B):OwnL w B' no v ls cs:=⟨Zf h.row hb,fun i c l hc hl=>(h.inn i c l hc hl).mono hb,h.apart,h.far⟩
theorem OwnL.no_ (h:OwnL w B no v ls cs) (hn:∀k,no'=some k→w.heap.size≤k):OwnL w B no' v ls cs :=
 ⟨h.row,h.inn,h.apart,fun i c k hc hk e=>by have:=(h.below_at hc e).2.1;have:=hn k hk;omega⟩
theorem OwnL.none_ (h:OwnL w B no v ls cs):OwnL w B none v ls cs:=⟨h.row,h.inn,h.apart,fun i c k hc hk=>by cases hk⟩
theorem OwnL.start {v:Value} {n:Nat} (h:w.ownsRow B 29 1 v n (List.replicate n (Value.slice none 0 0))):OwnL w B none v (List.replicate n []) (List.replicate n (Value.slice none 0 0)):=by
 refine⟨by rw [List.length_replicate];exact h,fun i c l hc hl => ?_,fun i j ci cj k hi hj _ hk => ?_,fun i c k _ hk=>by cases hk⟩
 ·rw [List.getElem?_replicate] at hc hl
  split at hc
  ·cases hc
   rename_i hi
   rw [if_pos hi] at hl
   cases hl
   exact OwnI.nil_
  ·cases hc
 ·rw [List.getElem?_replicate] at hi
  split at hi
  ·cases hi;cases hk
  ·cases hi
theorem OwnL.app {g n cap t gq cq : Nat} {p : List Int} {b : Int} {c : Value} {o : Obj} {w1 : World} (h : OwnL w B no (.slice (some ⟨g, 0, none⟩) n cap) ls cs) (hl : ls[t]? = some p) (hc : cs[t]? = some c) (hb : I64 b) (ho : ∀ k, no = some k → k < w.heap.size)
  (hown:w1.ownsRow B 3 1 (.slice (some ⟨gq,0,none⟩) (p.length+1) cq) (p.length+1) ((p.map fun z=>Value.int .i64 z) ++ [.int .i64 b])) (hg:(w.alloc o).grownBy w1 c.ownBlock) (hq:c.ownBlock=some gq∨gq=w.heap.size+1) (hn:n=ls.length) :
  OwnL (w1.setCell ⟨g,t,none⟩ (.slice (some ⟨gq,0,none⟩) (p.length+1) cq)) B no (.slice (some ⟨g,0,none⟩) n cap) (ls.set t (p ++ [b])) (cs.set t (.slice (some ⟨gq,0,none⟩) (p.length+1) cq)):=by
 have htl:t<ls.length:=(Js.1 hl).1
 have htc:t<cs.length:=(Js.1 hc).1
 have hci:=h.inn t c p hc hl
 have hrow1:=(But.grown hci.row hg).row (by decide) h.row
 subst hn
 have hst:=(World.ownsRow.stored hrow1 t (.slice (some ⟨gq,0,none⟩) (p.length+1) cq)).1
 have hbut:=But.stored (j:=t) (u := .slice (some ⟨gq,0,none⟩) (p.length+1) cq) hrow1
 have hnew:OwnI w1 B (.slice (some ⟨gq,0,none⟩) (p.length+1) cq) (p ++ [b]):=OwnI.snoc hci.ok hb hown
 have hold:∀(i:Nat) (ci:Value),cs[i]? = some ci→i≠t→∀k,ci.ownBlock=some k→k≠gq∧w1.heap[k]? = w.heap[k]? := fun i ci hi hit k hk=>by
  have h1:=h.below_at hi hk
  refine⟨?_,?_⟩
  ·rintro rfl
   rcases hq with hq|hq
   ·exact h.apart i t ci c k hi hc hit hk hq
   ·omega
  ·rw [hg.block k (by simp; omega) (fun e => h.apart i t ci c k hi hc hit hk e.symm)]
   exact Below.heap_alloc w o k h1.2.1
 refine⟨by rw [List.length_set];exact hst,fun i ci l hi hli => ?_,fun i j ci cj k hi hj hij hk => ?_,fun i ci k hi hk => ?_⟩
 ·by_cases hit : t = i
  ·subst hit
   rw [Jf htc] at hi
   rw [Jf htl] at hli
   cases hi;cases hli
   exact⟨hbut.row (by decide) hnew.row,hnew.ok⟩
  ·rw [Je hit] at hi hli
   have h1:=h.inn i ci l hi hli
   exact⟨hbut.row (by decide) (Yc h1.row fun k hk=>(hold i ci hi (fun e=>hit e.symm) k hk).2),h1.ok⟩
 ·by_cases hit : t = i
  ·subst hit
   rw [Jf htc] at hi
   rw [Je hij] at hj
   cases hi;cases hk
   exact fun e=>(hold j cj hj (fun e=>hij e.symm) _ e).1 rfl
  ·rw [Je hit] at hi
   by_cases hjt:t=j
   ·subst hjt
    rw [Jf htc] at hj
    cases hj
    intro e
    cases e
    exact(hold i ci hi hij _ hk).1 rfl
   ·rw [Je hjt] at hj
    exact h.apart i j ci cj k hi hj hij hk
 ·by_cases hit : t = i
  ·subst hit
   rw [Jf htc] at hi
   cases hi
   intro e
   cases e
   rcases hq with hq|hq
   ·exact h.far t c _ hc hk hq
   ·have : gq < w.heap.size := ho _ hk
    omega
  ·rw [Je hit] at hi
   exact h.far i ci k hi hk
end
theorem cinfo_ints:(Tryz.prog.info? 29).map (fun i=>(i.zero,i.size,i.bytes))=some (some (.slice none 0 0),1,24):=by kernel_rfl
theorem made_rows {w:World} {B g n:Nat} {c:Value} (h:w.ownsRow B 29 1 (.slice (some ⟨g,0,none⟩) n n) n (madeCells #[c] n).toList):w.ownsRow B 29 1 (.slice (some ⟨g,0,none⟩) n n) n (List.replicate n c):=by
 rwa [toList_madeCells_one] at h
def PredPost (n:Nat) (l:List (List Int)) (w:World) (e:Ending) (w':World):Prop:=∃g cs,e = .returned (.slice (some ⟨g,0,none⟩) n n)∧OwnL w' w.heap.size none (.slice (some ⟨g,0,none⟩) n n) l cs∧Below w.heap.size w w'
theorem preds_any (f : Fun) (c1 c2 : Value) (w : World) (B : Nat) (hB : B ≤ w.heap.size) (hf : RFun.rep w B [.string f.name, c1, .int .i64 f.ret, c2] f) (hs : Zo f) :
  Calls Tryz.prog 61 #[f.v c1 c2] w (PredPost f.blocks.length (Zw (Yo f.blocks) f.blocks.length) w):=by
 obtain⟨hp,hb⟩:=Yk (RFun.later hf (Below.refl _ _) hB)
 obtain⟨A1,k1,h1, -, -⟩:=Rp.slice1_open hp
 obtain⟨A2,k2,h2,hm2, -⟩:=Rp.slice1_open hb
 cases h1;cases h2
 clear hp hb
 obtain⟨i0,hi0,hz0,hz1,hz2⟩:=Yh Z5
 obtain⟨b0,hb0,hx0,hx1,hx2⟩:=Yh cinfo_ints
 refine hd8 hi0 hz0 hz1 hz2 hb0 hx0 hx1 hx2 ?_;clear hi0 hz0 hz1 hz2 hb0 hx0 hx1 hx2;intro hi0 hz0 hz1 hz2 hb0 hx0 hx1 hx2
 obtain⟨n,hn⟩:=Jn (f.blocks.length)
 have hnle:n≤2000000:=by rw [hn.out];exact hs.blocks
 obtain⟨sc,hsc⟩:=Jn (Yo f.blocks)
 have hsok:Hid (∀b,Ya1 n (sc b)):=hide (fun b=>by rw [hsc.out,hn.out];exact Yba _ _)
 rw [←hn.out,←hsc.out]
 rw [←hn.out] at hf hm2
 obtain⟨W,hW,hwW,hWs,hx⟩:=Y6 w #[.string f.name, .slice A1 f.params.length k1, .int .i64 f.ret, .slice A2 n k2] 32
 have q0:∀w',Below W.heap.size W w'→w'.cell? ⟨w.heap.size,0,none⟩=some (.string f.name):=hx 0 _ rfl
 have q1:∀w',Below W.heap.size W w'→w'.cell? ⟨w.heap.size,1,none⟩=some (.slice A1 f.params.length k1):=hx 1 _ rfl
 have q2:∀w',Below W.heap.size W w'→w'.cell? ⟨w.heap.size,2,none⟩=some (.int .i64 f.ret):=hx 2 _ rfl
 have q3:∀w',Below W.heap.size W w'→w'.cell? ⟨w.heap.size,3,none⟩=some (.slice A2 n k2):=hx 3 _ rfl
 clear hx
 have hws:w.heap.size≤W.heap.size:=by omega
 replace hWs:=hide hWs
 have hself:=Below.refl W.heap.size W
 have cS:Hid (∀(b:Int) w',Below W.heap.size W w'→Calls Tryz.prog 76 #[f.v (.slice A1 f.params.length k1) (.slice A2 n k2), .int .i64 b] w' (SuccPost (sc b) w')):=hide (fun b w' h=>by
  have hh:=hwW.trans (h.mono hws)
  have:=succs_any f b (.slice A1 f.params.length k1) (.slice A2 n k2) w' w'.heap.size (Nat.le_refl _) (RFun.later hf (hh.mono hB) (Nat.le_trans hB hh.size)) hs
  rwa [←hsc.out] at this)
 refine hd3 hs hf hwW ?_;clear hs hf hwW;intro hs hf hwW
 go_enter Tryz.func61,Tryz.ntmps61
 go_wp2_with (at_make;refine wpList_make_full _ rfl (.tmp 9) (.tmp 9) _ rfl W.heap.size 29 b0 _ 1 Tryz.underlying89 hb0.out hx0.out hx1.out .i64 .i64 n n n rfl rfl rfl rfl ?c1 ?c2 (Nat.le_refl _) ?_)
 case c1=>rw [hx2.out];omega
 case c2=>unfold maxLen;omega
 intro w1 hown1 hg1
 have hbel1:=Zr hg1
 have hmk1:=hide (OwnL.start (made_rows hown1))
 clear hg1 hown1
 go_wp2
 go_loopw [14] (fun j wr=>∃b:Nat,j = .int .i64 b∧b≤n∧Hid (∃cs,OwnL wr W.heap.size none (.slice (some ⟨W.heap.size,0,none⟩) n n) (Yy sc n b 0) cs)∧Below W.heap.size W wr) (fun i _=>n - (intOf i).toNat)
 case atStart=>exact⟨0,rfl,Nat.zero_le _,hide ⟨_,by rw [predsPart_start];exact hmk1.out⟩,hbel1⟩
 case round =>
  clear hmk1 hbel1
  obtain⟨b,rfl,hb,hrow,hbel⟩:=hrel
  by_cases hlt:b<n
  ·have hbi : (b : Int) < (n : Int) := by omega
   have hbs:=hbel.size
   have hsl:(sc b).length≤n:=succ_len (hsok.out b)
   go_wp2_with (first|(go_at_call 76;refine(cS.out b _ hbel).mono ?_;rintro e w3 ⟨c,rfl,hO3,hb3⟩;obtain⟨Ac,kc,hcf⟩:=Yd hO3.row;subst hcf))
   have hbel3:=hbel.trans (hb3.mono hbs)
   have hrow3:Hid (∃cs,OwnL w3 W.heap.size (Value.ownBlock (.slice Ac (sc b).length kc)) (.slice (some ⟨W.heap.size,0,none⟩) n n) (Yy sc n b 0) cs):=hide (by
    obtain⟨cs,h⟩:=hrow.out
    exact⟨cs,(h.no_ (fun k hk=>(Ya hO3.row hk).1)).below hb3⟩)
   have hO3':=hide (hO3.mono hbs)
   clear hbel hrow hb3 hO3 hbs
   go_loopw [21] (fun j wr=>∃i:Nat,j = .int .i64 i∧i≤(sc b).length∧Hid (∃cs,OwnL wr W.heap.size (Value.ownBlock (.slice Ac (sc b).length kc)) (.slice (some ⟨W.heap.size,0,none⟩) n n) (Yy sc n b i) cs)∧Hid (OwnI wr W.heap.size (.slice Ac (sc b).length kc) (sc b))∧Below W.heap.size W wr) (fun i _=>(sc b).length - (intOf i).toNat)
   case atStart=>exact⟨0,rfl,Nat.zero_le _,hrow3,hO3',hbel3⟩
   case round =>
    clear hrow3 hO3' hbel3
    obtain⟨i,rfl,hi,hrow,hou,hbel⟩:=hrel
    by_cases hlt2:i<(sc b).length
    ·obtain ⟨t, ht⟩ := Yf (l := sc b) (k := i) hlt2
     have htb:=(hsok.out b).bound t (Jm ht.out)
     obtain⟨tn,rfl⟩:=Int.eq_ofNat_of_zero_le htb.1
     have htn:tn<n:=by have:=htb.2;omega
     clear htb
     obtain⟨g,rfl⟩:∃g,Ac=some ⟨g,0,none⟩:=by
      rcases hou.out.row.2 with⟨h1,h2⟩|⟨gp,cp,cur,h1,h2,_⟩
      ·omega
      ·cases h1;exact⟨gp,rfl⟩
     have r0:wr.cell? ⟨g,i,none⟩=some (.int .i64 tn):=by rw [World.ownsRow.cellAt hou.out.row i (by omega),List.getElem?_map,ht.out];rfl
     obtain⟨cs,hcs⟩:=hrow.out
     obtain⟨p,hp⟩:=Yf (l:=Yy sc n b i) (k:=tn) (by rw [Qc];exact htn)
     obtain⟨c,hc,hcp⟩:=hcs.at_ hp.out
     obtain⟨Ap,kp,rfl⟩:=Yd hcp.row
     have hpl:p.length≤n:=by have:=predsPart_at_len hp.out;omega
     have hrw:=hcs.row
     rw [Qc] at hrw
     have r1:wr.cell? ⟨W.heap.size,tn,none⟩=some (.slice Ap p.length kp):=by rw [World.ownsRow.cellAt hrw tn (by omega)];exact hc
     have hII:Hid (i<(sc b).length):=hide hlt2
     have hmi:(i:Int)<((sc b).length:Int):=by omega
     have hbI:Hid (I64 b):=hide (Ybz (by omega) (by omega))
     have hgs:=hide ((Ya hou.out.row (k:=g) rfl).2.1)
     refine hd4 hrw hcp hcs hc ?_;clear hrw hcp hcs hc;intro hrw hcp hcs hc
     clear hrow
     have hbs:=hbel.size
     go_wp2_with (first
     | (at_builtin
        refine wpList_append_lies _ rfl (.tmp 30) (.tmp 32) _ rfl W.heap.size 3 i0 _ 1 8 Tryz.underlying29 hi0.out hz0.out hz1.out hz2.out rfl (by omega) (.slice Ap p.length kp) _ _ rfl (hcp.out.row.alloc _) ⟨wr.heap.size,0,none⟩ 1 1 [.int .i64 b] rfl rfl ?c1 ?c2 (by omega) ?c3 ?c4 ?c5 (wr.heap.size+1) ?c6 ?_
        case c1=>exact World.news_of_block (cs := #[.int .i64 b]) (t := 3) (fr:=(0,0)) (heap_alloc_new wr _)
        case c2=>simp [Value.oneCell']
        case c3=>unfold maxLen;omega
        case c4=>omega
        case c5=>first|(simp;omega)|simp|omega
        case c6=>simp
        intro gq cq w1 hown1 hg1 hgq hlt1
        have hbw1:Below W.heap.size W w1:=(hbel.alloc hbs _).grown hg1 (by simp;omega) (fun k hk=>(Ya hcp.out.row hk).1)
        have hbut:=But.grown hcp.out.row hg1
        have hL:=hide (OwnL.app hcs.out hp.out hc.out hbI.out (fun k hk=>(Ya hou.out.row hk).2.1) hown1 hg1 hgq (Qc ..).symm)
        have hrw1:=hbut.row (by decide) hrw.out
        have fz1:w1.frozen? ⟨W.heap.size,tn,none⟩=false:=World.ownsRow.frozenAt hrw1 tn
        have rz1:w1.cell? ⟨W.heap.size,tn,none⟩=some (.slice Ap p.length kp):=by rw [World.ownsRow.cellAt hrw1 tn (by omega)];exact hc.out
        have hou1:Hid (OwnI w1 W.heap.size (.slice (some ⟨g,0,none⟩) (sc b).length kc) (sc b)):=hide ⟨Yc hou.out.row fun k hk=>by
         cases hk
         rw [hg1.block g (by have:=hgs.out;simp;omega) (fun e=>hcs.out.far tn _ g hc.out rfl e.symm)]
         exact Below.heap_alloc wr _ g hgs.out,hou.out.ok⟩
        have hbw2:=hide (hbw1.setCell (p:=⟨W.heap.size,tn,none⟩) (Nat.le_refl _) (.slice (some ⟨gq,0,none⟩) (p.length+1) cq))
        have hou2:Hid (OwnI (w1.setCell ⟨W.heap.size,tn,none⟩ (.slice (some ⟨gq,0,none⟩) (p.length+1) cq)) W.heap.size (.slice (some ⟨g,0,none⟩) (sc b).length kc) (sc b)):=hide ⟨(But.stored (j:=tn) (u := .slice (some ⟨gq,0,none⟩) (p.length+1) cq) hrw1).row (by decide) hou1.out.row,hou1.out.ok⟩
        refine hd5 hrw1 hown1 hg1 hbut hgq ?_;clear hrw1 hown1 hg1 hbut hgq;intro hrw1 hown1 hg1 hbut hgq
        replace hlt1:=hide hlt1))
     go_roundw
     case rel=>exact⟨i+1,by go_num,hlt2,hide ⟨_,by have:=hL.out;rwa [predsPart_step (hsok.out b).nodup ht.out htn hp.out] at this⟩,hou2,hbw2.out⟩
     case measure=>simp [intOf];omega
    ·obtain rfl : i = (sc b).length := by omega
     have hnext:Hid (∃cs,OwnL wr W.heap.size none (.slice (some ⟨W.heap.size,0,none⟩) n n) (Yy sc n (b+1) 0) cs):=hide (by
      obtain⟨cs,h⟩:=hrow.out
      rw [predsPart_end] at h
      exact⟨cs,h.none_⟩)
     go_wp2
     go_roundw
     case rel=>exact⟨b+1,by go_num,hlt,hnext,hbel⟩
     case measure=>simp [intOf];omega
  ·obtain rfl : b = n := by omega
   go_wp2
   go_ret
   obtain⟨cs,h⟩:=hrow.out
   rw [predsPart_last] at h
   exact⟨W.heap.size,cs,rfl,h.mono hws,hwW.out.trans (hbel.mono hws)⟩
theorem Yas {X:World} {B g n:Nat} {l:List Bool} (h:X.ownsRow B 4 1 (.slice (some ⟨g,0,none⟩) n n) n (l.map Value.bool)):l.length=n∧∀(k:Nat) b,l[k]? = some b→∀w',Below X.heap.size X w'→w'.cell? ⟨g,k,none⟩=some (.bool b):=by
 have hl:l.length=n:=by have:=h.1;simpa using this
 refine⟨hl,fun k b hk w' hb => ?_⟩
 rw [hb.cell (p:=⟨g,k,none⟩) (Ya h rfl).2.1]
 exact OwnB.cell h hk (by have:=(Js.1 hk).1;omega)
theorem int_reads {X:World} {B:Nat} {v:Value} {l:List Int} (h:OwnI X B v l):∃A C,v = .slice A l.length C∧(0<l.length→∃g,A=some ⟨g,0,none⟩∧∀(i:Nat) x,l[i]? = some x→∀w',Below X.heap.size X w'→w'.cell? ⟨g,i,none⟩=some (.int .i64 x)):=by
 obtain⟨A,C,rfl⟩:=Yd h.row
 refine⟨A,C,rfl,fun hl => ?_⟩
 obtain⟨g,cap,hv, -, -⟩:=h.row.form hl
 cases hv
 refine⟨g,rfl,fun i x hi w' hb => ?_⟩
 rw [hb.cell (p:=⟨g,i,none⟩) (Ya h.row rfl).2.1,World.ownsRow.cellAt h.row i (by have:=(Js.1 hi).1;omega),List.getElem?_map,hi]
 rfl
theorem rows_reads {X:World} {B g n:Nat} {no:Option Nat} {ls:List (List Int)} {cs:List Value} (h:OwnL X B no (.slice (some ⟨g,0,none⟩) n n) ls cs) (hn:ls.length=n):∀(t:Nat) p,ls[t]? = some p→∃A C,(∀w',Below X.heap.size X w'→w'.cell? ⟨g,t,none⟩=some (.slice A p.length C))∧
  (0<p.length→∃g,A=some ⟨g,0,none⟩∧∀(i:Nat) x,p[i]? = some x→∀w',Below X.heap.size X w'→w'.cell? ⟨g,i,none⟩=some (.int .i64 x)):=by
 intro t p hp
 obtain⟨c,hc,hI⟩:=h.at_ hp
 obtain⟨A,C,rfl,h2⟩:=int_reads hI
 refine⟨A,C,fun w' hb => ?_,h2⟩
 subst hn
 rw [hb.cell (p:=⟨g,t,none⟩) (Ya h.row rfl).2.1,World.ownsRow.cellAt h.row t (by have:=(Js.1 hp).1;omega)]
 exact hc
theorem reach_step {bs:List (List Ins)} {b t:Nat} (hb:(Yw bs)[b]? = some true) (hbl:b<bs.length) (ht:(t:Int)∈Yo bs b) (htl:t<bs.length):(Yw bs)[t]? = some true:=by
 rw [reach_at _ _ hbl] at hb
 rw [reach_at _ _ htl]
 have h1:(b:Int)∈Q4 bs:=by simpa using hb
 have h2:=((Ybe bs).mem _).1 h1
 have h3:=((Ybe bs).mem (t:Int)).2 ⟨h2.1, .step h2.2 ht⟩
 simp [h3]
def RetB (r:Bool) (w:World) (e:Ending) (w':World):Prop:=e = .returned (.bool r)∧Below w.heap.size w w'
def Y7 (w:World) (T:Nat→Prop) (N:Nat) (f:Fun) (Cp:Nat→Prop) (res:Option (List (List Ins))) (e:Ending) (w':World):Prop :=
 ∃(T':Nat→Prop) (c' d':Value),(∀k,T' k→T k∨w.heap.size≤k)∧(match res with|none=>e = .returned (.bool false)∧MF w' T' N f c' d'|some bs=>e = .returned (.bool true)∧MF w' T' N (Ye f bs) c' d')∧Only (fun k=>k=N∨T k) w.heap.size w w'∧(∀k,c'.ownBlock=some k→Cp k∨w.heap.size≤k)
theorem Y7.none_ {w w':World} {T:Nat→Prop} {N:Nat} {f:Fun} {c d:Value} {Cp:Nat→Prop} {res:Option (List (List Ins))} (hr:res=none) (h:MF w T N f c d) (hb:Below w.heap.size w w') (hCp:∀k,c.ownBlock=some k→Cp k):Y7 w T N f Cp res (.returned (.bool false)) w':=by
 subst hr
 exact⟨T,c,d,fun k hk => .inl hk,⟨rfl,h.below hb⟩,Only.of_below hb,fun k hk => .inl (hCp k hk)⟩
theorem m31:I64 31:=Ybz (by omega) (by omega)
theorem mm1:I64 (-1):=Ybz (by omega) (by omega)
theorem m00:I64 0:=Ybz (by omega) (by omega)
theorem brI_ok (t:Int):Ybr (brI t):=⟨m31,mm1,m00,m00,m00⟩
theorem cell7 {w : World} {gc q m C : Nat} {l : List Ins} {es : List (Value × Value)} {x : Ins} {c t : Value} (h : Z9 w 0 (.slice (some ⟨gc, 0, none⟩) m C) l es) (hx : l[q]? = some x) (he : es[q]? = some (c, t)) :
  w.cell? ⟨gc,q*7,none⟩=some (.int .i64 x.op)∧w.cell? ⟨gc,q*7+1,none⟩=some (.int .i64 x.reg)∧w.cell? ⟨gc,q*7+2,none⟩=some (.int .i64 x.ty)∧w.cell? ⟨gc,q*7+3,none⟩=some (.int .i64 x.num)∧w.cell? ⟨gc,q*7+4,none⟩=some (.int .i64 x.flags)∧w.cell? ⟨gc,q*7+5,none⟩=some c∧w.cell? ⟨gc,q*7+6,none⟩=some t :=
 ⟨h.cell_at hx he (j:=0) rfl,h.cell_at hx he (j:=1) rfl,h.cell_at hx he (j:=2) rfl,h.cell_at hx he (j:=3) rfl,h.cell_at hx he (j:=4) rfl,h.cell_at hx he (j:=5) rfl,h.cell_at hx he (j:=6) rfl⟩
def Ybc (w:World) (g o:Nat) (x:Ins) (c t:Value):World:=((((((w.setCell ⟨g,o,none⟩ (.int .i64 x.op)).setCell ⟨g,o+1,none⟩ (.int .i64 x.reg)).setCell ⟨g,o+2,none⟩ (.int .i64 x.ty)).setCell ⟨g,o+3,none⟩ (.int .i64 x.num)).setCell ⟨g,o+4,none⟩ (.int .i64 x.flags)).setCell ⟨g,o+5,none⟩ c).setCell ⟨g,o+6,none⟩ t
theorem Yca (w:World) (g o:Nat) (x:Ins) (c t:Value) (k:Nat) (h:k≠g):(Ybc w g o x c t).heap[k]? = w.heap[k]? := by
 unfold Ybc
 rw [Below.heap_setCell _ ⟨g,o+6,none⟩ _ _ h,Below.heap_setCell _ ⟨g,o+5,none⟩ _ _ h,Below.heap_setCell _ ⟨g,o+4,none⟩ _ _ h,Below.heap_setCell _ ⟨g,o+3,none⟩ _ _ h,Below.heap_setCell _ ⟨g,o+2,none⟩ _ _ h,Below.heap_setCell _ ⟨g,o+1,none⟩ _ _ h,Below.heap_setCell _ ⟨g,o,none⟩ _ _ h]
theorem put7I_only {S:Nat→Prop} {B:Nat} {a w:World} {g:Nat} (h:Only S B a w) (hg:S g) (o:Nat) (x:Ins) (c t:Value):Only S B a (Ybc w g o x c t):=by
 unfold Ybc
 exact((((((h.setCell (p:=⟨g,o,none⟩) (.inl hg) _).setCell (p:=⟨g,o+1,none⟩) (.inl hg) _).setCell (p:=⟨g,o+2,none⟩) (.inl hg) _).setCell (p:=⟨g,o+3,none⟩) (.inl hg) _).setCell (p:=⟨g,o+4,none⟩) (.inl hg) _).setCell (p:=⟨g,o+5,none⟩) (.inl hg) _).setCell (p:=⟨g,o+6,none⟩) (.inl hg) _
theorem MF.ins7g {w0 w : World} {T : Nat → Prop} {N : Nat} {f : Fun} {c d : Value} {xs : List Value} {ess : List (List (Value × Value))} (hf : MF w0 T N f c d) (hk : Yq w0 0 d f.blocks xs ess) (hT : ∀ k, TB d xs ess k → T k) {b i gc n C : Nat} {l : List Ins} {es : List (Value × Value)} {ins x : Ins} {ca ct c' t' : Value}
  (hb:f.blocks[b]? = some l) (hx:xs[b]? = some (.slice (some ⟨gc,0,none⟩) n C)) (he:ess[b]? = some es) (hi:l[i]? = some ins) (hei:es[i]? = some (ca,ct)) (hw:Below w0.heap.size w0 w) (hV:OwnV w 0 c' x.args) (hI:OwnI w 0 t' x.to) (hok:Ybr x)
  (hc:∀k,c'.ownBlock=some k→ca.ownBlock=some k∨w0.heap.size≤k) (ht:∀k,t'.ownBlock=some k→ct.ownBlock=some k∨w0.heap.size≤k) :
  MF (Ybc w gc (i*7) x c' t') (fun k=>T k∨w0.heap.size≤k) N (Ye f (f.blocks.set b (l.set i x))) c d∧Only (fun k=>k=N∨T k) w0.heap.size w0 (Ybc w gc (i*7) x c' t'):=by
 have hcd:=hk.inn b _ l es hx hb he
 have hgT:T gc:=hT gc (.inr (.inl ⟨_,Jm hx,rfl⟩))
 have hglt:gc<w0.heap.size:=(Ya hcd.row rfl).2.1
 have hlen:=hcd.len
 have hn:n=l.length:=by
  rcases hcd.row.2 with⟨e, -⟩|⟨g,cap,cur,e, -⟩
  ·cases e
  ·cases e;rfl
 have hon:Only (fun k=>k=N∨T k) w0.heap.size w0 (Ybc w gc (i*7) x c' t'):=put7I_only (Only.of_below hw) (.inr hgT) _ _ _ _
 have hrow:(Ybc w gc (i*7) x c' t').ownsRow 0 44 7 (.slice (some ⟨gc,0,none⟩) n C) n (cellsOf (l.set i x) (es.set i (c',t'))):=by
  have h1:w.ownsRow 0 44 7 (.slice (some ⟨gc,0,none⟩) n C) n (cellsOf l es):=by
   have:=Yc hcd.row (w':=w) fun k hk=>hw.block k (Ya hcd.row hk).2.1
   rwa [←hn] at this
  have h2:=(World.ownsRow.stored (World.ownsRow.stored (World.ownsRow.stored (World.ownsRow.stored (World.ownsRow.stored (World.ownsRow.stored (World.ownsRow.stored h1 (i*7) (.int .i64 x.op)).1 (i*7+1) (.int .i64 x.reg)).1 (i*7+2) (.int .i64 x.ty)).1 (i*7+3) (.int .i64 x.num)).1 (i*7+4) (.int .i64 x.flags)).1 (i*7+5) c').1 (i*7+6) t').1
  rw [cells_set7 hi hei hlen] at h2
  exact h2
 have hgcw:∃c,w.heap[gc]? = some (.cells c 44 (0,0)):=by
  obtain⟨-, -,c,h9⟩:=Ya hcd.row rfl
  exact⟨c,(hw.block gc hglt).trans h9⟩
 have hV':OwnV (Ybc w gc (i*7) x c' t') 0 c' x.args:=⟨Yc hV.row fun k hk=>Yca _ _ _ _ _ _ _ (Z7 (Ya hV.row hk).2.2 hgcw (by decide)),hV.ok⟩
 have hI':OwnI (Ybc w gc (i*7) x c' t') 0 t' x.to:=⟨Yc hI.row fun k hk=>Yca _ _ _ _ _ _ _ (Z7 (Ya hI.row hk).2.2 hgcw (by decide)),hI.ok⟩
 have hk3:=hk.put_ins (w':=Ybc w gc (i*7) x c' t') hb hx he hi hei hrow hV' hI' hok hc ht (fun k h1 h2 _ _=>(Yca _ _ _ _ _ _ _ h2).trans (hw.block k h1))
 have hTn:∀k,TB d xs (ess.set b (es.set i (c',t'))) k→T k∨w0.heap.size≤k:=fun k hq=>by
  rcases hq with h1|h1|⟨a,z,h1,h2,h3⟩
  ·exact .inl (hT k (.inl h1))
  ·exact .inl (hT k (.inr (.inl h1)))
  ·rcases List.mem_or_eq_of_mem_set h1 with h4 | h4
   ·exact .inl (hT k (.inr (.inr ⟨a,z,h4,h2,h3⟩)))
   ·subst h4
    rcases List.mem_or_eq_of_mem_set h2 with h5|h5
    ·exact .inl (hT k (.inr (.inr ⟨es,z,Jm he,h5,h3⟩)))
    ·subst h5
     rcases h3 with h3|h3
     ·exact(hc k h3).imp_left fun h9=>hT k (.inr (.inr ⟨es,(ca,ct),Jm he,Jm hei, .inl h9⟩))
     ·exact(ht k h3).imp_left fun h9=>hT k (.inr (.inr ⟨es,(ca,ct),Jm he,Jm hei, .inr h9⟩))
 refine⟨⟨?_,⟨xs,_,hk3,hTn⟩,⟨Yc hf.par.row fun k hv=>hon.block k (Ya hf.par.row hv).2.1 (fun h => ?_),hf.par.ok⟩,fun k hk'=>⟨fun h => ?_,(hf.far k hk').2⟩,fun h => ?_,hf.ret,hf.nm⟩,hon⟩
 ·have e : N ≠ gc := fun e => hf.out (e ▸ hgT)
  rw [Yca _ _ _ _ _ _ _ e,hw.block N hf.lt]
  exact hf.box
 ·rcases h with h | h
  ·exact(hf.far k hv).2 h
  ·exact(hf.far k hv).1 h
 ·rcases h with h | h
  ·exact(hf.far k hk').1 h
  ·have := (Ya hf.par.row hk').2.1
   omega
 ·rcases h with h | h
  ·exact hf.out h
  ·have := hf.lt
   omega
theorem MF.ins7 {w0 w : World} {T : Nat → Prop} {N : Nat} {f : Fun} {c d : Value} {xs : List Value} {ess : List (List (Value × Value))} (hf : MF w0 T N f c d) (hk : Yq w0 0 d f.blocks xs ess) (hT : ∀ k, TB d xs ess k → T k) {b i gc n C : Nat} {l : List Ins} {es : List (Value × Value)} {ins x : Ins} {ca ct c' t' : Value}
  (hb:f.blocks[b]? = some l) (hx:xs[b]? = some (.slice (some ⟨gc,0,none⟩) n C)) (he:ess[b]? = some es) (hi:l[i]? = some ins) (hei:es[i]? = some (ca,ct)) (hw:Below w0.heap.size w0 w) (hV:OwnV w w0.heap.size c' x.args) (hI:OwnI w w0.heap.size t' x.to) (hok:Ybr x) :
  MF (Ybc w gc (i*7) x c' t') (fun k=>T k∨w0.heap.size≤k) N (Ye f (f.blocks.set b (l.set i x))) c d∧Only (fun k=>k=N∨T k) w0.heap.size w0 (Ybc w gc (i*7) x c' t') :=
 hf.ins7g hk hT hb hx he hi hei hw ⟨Zf hV.row (Nat.zero_le _),hV.ok⟩ ⟨Zf hI.row (Nat.zero_le _),hI.ok⟩ hok (fun k h => .inr (Ya hV.row h).1) (fun k h => .inr (Ya hI.row h).1)
theorem ttwice_any {w : World} {T : Nat → Prop} {N : Nat} {f : Fun} {c d : Value} {Cp : Nat → Prop} (hCp : ∀ k, c.ownBlock = some k → Cp k) (h : MF w T N f c d) (hs : Zo f) (hwf : Wf f.blocks) :
  Calls Tryz.prog 25 #[.pointer (some ⟨N,0,none⟩)] w (Y7 w T N f Cp (Ya9 (Yw f.blocks) f.blocks)):=by
 replace hCp:=hide hCp
 obtain⟨xs,ess,hk,hT⟩:=h.tree
 obtain⟨R,hR⟩:=Jn (Yw f.blocks)
 obtain⟨n,hn⟩:=Jn (f.blocks.length)
 have hnb:n≤2000000:=by rw [hn.out];exact hs.blocks
 have hRl:Hid (R.length=n):=hide (by rw [hR.out,hn.out,Qj])
 obtain⟨res,hres⟩:=Jn (Ya9 (Yw f.blocks) f.blocks)
 rw [←hres.out]
 obtain⟨Ad,Cd,hdf⟩:=Yd hk.row
 subst hdf
 obtain⟨Ac,Cc,hcf⟩:=Yd h.par.row
 subst hcf
 have hNlt:=h.lt
 have hbox:=h.box
 have b0:=Yg (Yb hbox 0 rfl) hNlt
 have b1:=Yg (Yb hbox 1 rfl) hNlt
 have b2:=Yg (Yb hbox 2 rfl) hNlt
 have b3:=Yg (Yb hbox 3 rfl) hNlt
 have hself:=Below.refl w.heap.size w
 obtain⟨np,hnp⟩:=Jn (f.params.length)
 have hh:=h
 have hkk:=hk
 have cR:Hid (Calls Tryz.prog 54 #[f.v (.slice Ac np Cc) (.slice Ad n Cd)] w (Yay n R w)):=hide (by
  have:=reach_any f _ _ w w.heap.size (Nat.le_refl _) h.rep hs
  rw [←hn.out,←hR.out,←hnp.out] at this
  exact this)
 rw [←hnp.out] at b1
 rw [←hn.out] at b3
 refine hd8 h hh hk hkk hT hbox hwf hs ?_;clear h hh hk hkk hT hbox hwf hs;intro h hh hk hkk hT hbox hwf hs
 go_enter Tryz.func25,Tryz.ntmps25
 go_wp2_with (fail)
 refine cR.out.mono ?_
 rintro e w1 ⟨gr,rfl,hrr,hb1⟩
 obtain⟨-,hrd⟩:=Yas hrr
 refine hd2 hrr hrd ?_;clear hrr hrd;intro hrr hrd
 have hw1s:=hb1.size
 have hself1:=Below.refl w1.heap.size w1
 have h1w:Hid (∀w',Below w1.heap.size w1 w'→Below w.heap.size w w'):=hide (fun w' hb=>hb1.trans (hb.mono hw1s))
 have hno0:Hid (∀j,j<0→twB R f.blocks j=false):=hide (fun j hj=>by omega)
 clear cR
 go_wp2
 go_loopw [11] (fun s wr=>∃i:Nat,s = .int .i64 i∧i≤n∧Hid (∀j,j<i→twB R f.blocks j=false)∧Below w1.heap.size w1 wr) (fun s _=>n - (intOf s).toNat)
 case atStart=>exact⟨0,rfl,Nat.zero_le _,hno0,hself1⟩
 case round =>
  clear hno0 hself1
  rename World=>V
  obtain⟨i,rfl,hi,hno,hbV⟩:=hrel
  have hbw:=h1w.out V hbV
  have hVs:=hbV.size
  by_cases hlt:i<n
  ·have hii : (i : Int) < (n : Int) := by omega
   obtain⟨l,hl⟩:=Yf (l:=f.blocks) (k:=i) (by rw [←hn.out];exact hlt)
   obtain⟨rb,hrb⟩:=Yf (l:=R) (k:=i) (by rw [hRl.out];exact hlt)
   have rr:=hrd.out i rb hrb.out
   have rr0:=rr V hbV
   have hwl:=hwf.out l (Jm hl.out)
   obtain⟨x,es,hx,he,hcd⟩:=hk.out.row_at hl.out
   have hlpos:0<l.length:=List.length_pos_iff.2 hwl.ne
   obtain⟨gd,CD9,hgdf, -,hgd⟩:=hk.out.row.form (by rw [←hn.out];omega)
   rw [←hn.out] at hgdf
   cases hgdf
   obtain⟨gc,Cx,hxf, -,hgcl⟩:=hcd.row.form hlpos
   subst hxf
   obtain⟨q,hq⟩:∃q,Hid (l.length=q+1):=⟨l.length - 1,hide (by omega)⟩
   obtain⟨m,hm⟩:=Jn (l.length)
   rw [←hm.out] at hx
   obtain⟨ins,hins⟩:=Yf (l:=l) (k:=q) (by rw [hq.out];omega)
   obtain⟨ca,ct,hei,hva,hvt,hok⟩:=hcd.ins_at hins.out
   have hmem:=Jm hins.out
   have hend:=endI_at hl.out hq.out hins.out
   have hmb:m≤9223372036854775807:=by rw [hm.out];exact Yae hcd.row
   have cE:Hid (Calls Tryz.prog 55 #[.pointer (some ⟨N,0,none⟩), .int .i64 i] V fun e w'=>e = .returned (.pointer (some ⟨gc,q*7,none⟩))∧w'=V):=hide (by
    have hk1:=hk.out.kept (w':=V) fun k _ hk=>hbw.block k hk
    rw [←hn.out] at hk1
    exact tend_any (b3 V hbw) hn.out hk1 hx (by rw [hm.out,hq.out]) hmb)
   have hcdV:Hid (Z9 V 0 (.slice (some ⟨gc,0,none⟩) m Cx) l es):=hide (by
    have:=hcd.kept (w':=V) fun k _ hk=>hbw.block k hk
    rwa [←hm.out] at this)
   refine hd7 hx he hei hend hmem hwl hok ?_;clear hx he hei hend hmem hwl hok;intro hx he hei hend hmem hwl hok
   go_wp2_with (fail)
   refine cE.out.mono ?_
   rintro e w2 ⟨rfl,hw2⟩
   rw [hw2]
   clear hw2
   obtain⟨e0,e1,e2,e3,e4,e5,e6⟩:=cell7 hcdV.out hins.out hei.out
   have hstep:Hid (twB R f.blocks i=false→∀j,j<i+1→twB R f.blocks j=false):=hide (fun h9 j hj=>by
    rcases Nat.lt_succ_iff_lt_or_eq.1 hj with h1|h1
    ·exact hno.out j h1
    ·rw [h1];exact h9)
   have hgetR:Hid (R.getD i false=rb):=hide (by rw [Jq,hrb.out];rfl)
   cases rb with
   | false =>
    have hnx:=hide (hstep.out (by unfold twB;rw [hgetR.out];rfl))
    go_upto_region 5 with(fail)
    go_quiet (fail)
    have hbQ:Below w1.heap.size w1 _:=Yi hbV nq
    go_wp2
    go_roundw
    case rel=>exact⟨i+1,by go_num,hlt,hnx,hbQ⟩
    case measure=>simp [intOf];omega
   | true =>
    by_cases h32:ins.op=32
    case neg =>
     have hnx:=hide (hstep.out (by unfold twB;rw [hend.out];simp [h32]))
     have g1:(ins.op==32)=false:=by rw [beq_eq_false_iff_ne];exact h32
     replace h32:=hide h32
     go_upto_region 5 with(fail)
     go_quiet (fail)
     have hbQ:Below w1.heap.size w1 _:=Yi hbV nq
     go_wp2
     go_roundw
     case rel=>exact⟨i+1,by go_num,hlt,hnx,hbQ⟩
     case measure=>simp [intOf];omega
    have g1:(ins.op==32)=true:=by rw [h32];rfl
    obtain⟨hto2,hargs1⟩:=hwl.out.brif ins hmem.out h32
    obtain⟨t0,t1,hto⟩:∃t0 t1,ins.to = [t0,t1]:=by
     match h9:ins.to,hto2 with
     | [a,b],_=>exact⟨a,b,rfl⟩
    obtain⟨At,Ct,hctf⟩:=Yd hvt.row
    subst hctf
    obtain⟨gt,CT9,htf, -,hgtl⟩:=hvt.row.form (by rw [hto];simp)
    rw [hto] at htf
    cases htf
    have hvr:=hvt.row
    have hgtl':gt<w.heap.size:=hgtl
    have a0:=World.ownsRow.cellAt (n:=2) (by rw [hto] at hvr;exact hvr) 0 (by omega)
    have a1:=World.ownsRow.cellAt (n:=2) (by rw [hto] at hvr;exact hvr) 1 (by omega)
    simp only [hto,List.map_cons,List.map_nil,List.getElem?_cons_zero,List.getElem?_cons_succ] at a0 a1 e6
    have a0':=Yg (w:=w) (N:=gt) (j:=0) a0 hgtl' V hbw
    have a1':=Yg (w:=w) (N:=gt) (j:=1) a1 hgtl' V hbw
    by_cases htt:t0=t1
    case neg =>
     have hnx:=hide (hstep.out (by unfold twB;rw [hend.out];simp [hto,htt]))
     have g2:(t0==t1)=false:=by rw [beq_eq_false_iff_ne];exact htt
     refine hd3 h32 htt hto ?_;clear h32 htt hto;intro h32 htt hto
     go_upto_region 5 with(fail)
     go_quiet (fail)
     have hbQ:Below w1.heap.size w1 _:=Yi hbV nq
     go_wp2
     go_roundw
     case rel=>exact⟨i+1,by go_num,hlt,hnx,hbQ⟩
     case measure=>simp [intOf];omega
    have g2:(t0==t1)=true:=by rw [beq_iff_eq];exact htt
    have hI0:Hid (I64 t0):=hide (hvt.ok t0 (by rw [hto];simp))
    have hfound:Hid (res=some (f.blocks.set i (setEnd l (brI t0)))):=hide (by
     rw [hres.out]
     unfold Ya9
     rw [←hR.out,Qk (i:=i) (by rw [←hn.out];exact hlt) (by unfold twB;rw [hgetR.out,hend.out];simp [h32,hto,htt]) hno.out]
     simp only [Option.map_some,hend.out,hto,Jq,hl.out,Option.getD_some,List.getElem?_cons_zero]
     rfl)
    have hse:Hid (setEnd l (brI t0)=l.set q (brI t0)):=hide (by unfold setEnd;rw [hq.out,Nat.add_sub_cancel])
    refine hd3 h32 htt hto ?_;clear h32 htt hto;intro h32 htt hto
    go_upto_region 5 with(fail)
    go_quiet (fail)
    have hbQ0:=Yi hbw nq
    obtain⟨Q,hQ⟩:∃Q,Hid (V.drewN nq=Q):=⟨_,hide rfl⟩
    rw [hQ.out] at hbQ0⊢
    have hVQ:Hid (Below V.heap.size V Q):=hide (by rw [←hQ.out];exact Yi (Below.refl _ _) nq)
    obtain⟨e0,e1,e2,e3,e4,e5,e6⟩:=cell7 (hcdV.out.kept (w':=Q) fun k _ hk=>hVQ.out.block k hk) hins.out hei.out
    simp only [hto.out,List.length_cons,List.length_nil] at e6
    have a0':=Yg (w:=w) (N:=gt) (j:=0) a0 hgtl' Q hbQ0
    have hbQ:=hide hbQ0
    clear a1 a1'
    go_wp2_with (fail)
    refine(tjump_any t0 hI0.out _).mono ?_
    rintro e X ⟨g,rfl,hIX,hbX⟩
    have hcX:=(hcdV.out.kept (w':=Q) fun k _ hk=>hVQ.out.block k hk).kept (w':=X) fun k _ hk=>hbX.block k hk
    obtain⟨x0,x1,x2,x3,x4,x5,x6⟩:=cell7 hcX hins.out hei.out
    have xz:∀j,X.frozen? ⟨gc,j,none⟩=false:=fun j=>Zj hcX.row j
    have z0:=xz (q*7)
    have z1:=xz (q*7+1)
    have z2:=xz (q*7+2)
    have z3:=xz (q*7+3)
    have z4:=xz (q*7+4)
    have z5:=xz (q*7+5)
    have z6:=xz (q*7+6)
    have hwX:Below w.heap.size w X:=hbQ.out.trans (hbX.mono hbQ.out.size)
    have hfin:Hid (Y7 w T N f Cp res (.returned (.bool true)) (Ybc X gc (q*7) (brI t0) (.slice none 0 0) (.slice (some ⟨g,0,none⟩) 1 1))):=hide (by
     have hkw:=hk.out
     have h9:=MF.ins7 h.out hk.out hT.out hl.out (by rw [hm.out] at hx;exact hx.out) he.out hins.out hei.out hwX (c' := .slice none 0 0) (x:=brI t0) OwnV.nil_ (hIX.mono hbQ.out.size) (brI_ok t0)
     rw [hfound.out,hse.out]
     exact⟨_,_,_,fun k hk=>hk,⟨rfl,h9.1⟩,h9.2,fun k hk => .inl (hCp.out k hk)⟩)
    refine hd3 hIX hbX hcX ?_;clear hIX hbX hcX;intro hIX hbX hcX
    clear xz
    go_wp2
    go_ret
    exact hfin.out
  ·obtain rfl : n = i := by omega
   have hfin:Hid (Y7 w T N f Cp res (.returned (.bool false)) V):=hide (Y7.none_ (by
    rw [hres.out]
    unfold Ya9
    rw [←hR.out,Zd (by rw [←hn.out];exact hno.out)]
    rfl) h.out (h1w.out V hbV) hCp.out)
   go_wp2
   go_ret
   exact hfin.out
theorem made_zeros {w:World} {B g n:Nat} (h:w.ownsRow B 3 1 (.slice (some ⟨g,0,none⟩) n n) n (madeCells #[Value.int .i64 0] n).toList):w.ownsRow B 3 1 (.slice (some ⟨g,0,none⟩) n n) n ((List.replicate n (0:Int)).map fun z=>Value.int .i64 z):=by
 rw [toList_madeCells_one] at h
 rw [List.map_replicate]
 exact h
def OwnN (w:World) (B g n:Nat) (l:List Int):Prop:=w.ownsRow B 3 1 (.slice (some ⟨g,0,none⟩) n n) n (l.map fun z=>Value.int .i64 z)
section
variable {w w':World} {B g n:Nat} {l:List Int}
theorem OwnN.len (h:OwnN w B g n l):l.length=n:=by have:=h.1;simpa using this
theorem OwnN.cell (h:OwnN w B g n l) {k:Nat} {x:Int} (hk:l[k]? = some x):w.cell? ⟨g,k,none⟩=some (.int .i64 x):=by
 have:=(Js.1 hk).1
 have hl:=h.len
 rw [World.ownsRow.cellAt h k (by omega),List.getElem?_map,hk];rfl
theorem OwnN.free (h:OwnN w B g n l) (k:Nat):w.frozen? ⟨g,k,none⟩=false:=World.ownsRow.frozenAt h k
theorem OwnN.set_ (h:OwnN w B g n l) (k:Nat) (x:Int):OwnN (w.setCell ⟨g,k,none⟩ (.int .i64 x)) B g n (l.set k x):=by
 have st:=(World.ownsRow.stored h k (.int .i64 x)).1
 unfold OwnN
 rwa [List.map_set]
theorem OwnN.lt (h:OwnN w B g n l):B≤g∧g<w.heap.size:=⟨(Ya h rfl).1,(Ya h rfl).2.1⟩
end
def Dom (sc:Int→List Int) (o:List Int) (a b:Int):Prop:=a∈o∧b∈o∧¬RchW sc a b
open Classical in
noncomputable def domB (sc:Int→List Int) (o:List Int) (a b:Int):Bool:=decide (Dom sc o a b)
theorem domB_iff {sc:Int→List Int} {o:List Int} {a b:Int}:domB sc o a b=true↔Dom sc o a b:=by unfold domB;simp
def mv (a b x:Int):Int:=if x=a then b else if x=b then a else x
def setTo (x:Ins) (l:List Int):Ins := { x with «to» := l }
end Go.Proofs.YtamjcafjdioidaaGreat
