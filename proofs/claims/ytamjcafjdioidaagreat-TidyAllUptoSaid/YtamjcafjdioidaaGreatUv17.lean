/- Texts of the chain, without what is not wanted: TdT, TdU. No condition but sizes. -/
import Derived.Test.YtamjcafjdioidaaGreatUv16
set_option linter.unusedVariables false
set_option linter.unusedSimpArgs false
set_option maxRecDepth 100000
set_option maxHeartbeats 12800000
namespace Go.Proofs.YtamjcafjdioidaaGreat
theorem succsL_mem {n:Nat} {tl:List Int} {c:Int}:c∈Qe n tl↔c∈tl∧0≤c∧c<n:=by
 have key:∀(tl acc:List Int),c∈tl.foldl (keepS n) acc↔c∈acc∨(c∈tl∧0≤c∧c<n):=by
  intro tl
  induction tl with
  | nil=>intro acc;simp
  | cons t tl ih =>
   intro acc
   rw [List.foldl_cons,ih]
   unfold keepS
   by_cases h:0≤t∧t<n∧t∉acc
   ·rw [if_pos h, List.mem_append, List.mem_singleton, List.mem_cons]
    constructor
    ·rintro ((h1 | h1) | h1)
     ·exact .inl h1
     ·subst h1;exact .inr ⟨.inl rfl,h.1,h.2.1⟩
     ·exact .inr ⟨.inr h1.1,h1.2⟩
    ·rintro (h1 | ⟨h1 | h1, h2⟩)
     ·exact .inl (.inl h1)
     ·exact .inl (.inr h1)
     ·exact .inr ⟨h1,h2⟩
   ·rw [if_neg h, List.mem_cons]
    constructor
    ·rintro (h1 | h1)
     ·exact .inl h1
     ·exact .inr ⟨.inr h1.1,h1.2⟩
    ·rintro (h1 | ⟨h1 | h1, h2⟩)
     ·exact .inl h1
     ·subst h1
      by_cases h3:c∈acc
      ·exact .inl h3
      ·exact absurd ⟨h2.1,h2.2,h3⟩ h
     ·exact .inr ⟨h1,h2⟩
 unfold Qe
 rw [key]
 simp
def Qr (bs:List (List Ins)) (p:Nat) (c:Int):Prop:=∃x,endI bs p=some x∧(x.op=31∨x.op=32)∧c∈x.to
theorem Zg {bs:List (List Ins)} {p:Nat} {l:List Ins} (h:bs[p]? = some l):endI bs p=l.getLast? := by
 unfold endI
 rw [h,List.getLast?_eq_getElem?]
 rfl
theorem Yay {bs:List (List Ins)} {p:Nat} {c:Int} (hc:0≤c∧c<bs.length):Qr bs p c↔c∈Yo bs p:=by
 unfold Qr Yo
 rw [if_pos (by omega),Int.toNat_natCast]
 cases hp:bs[p]? with
 | none =>
  simp [endI,hp]
 | some l =>
  rw [Zg hp]
  unfold succsB
  cases hl:l.getLast? with
  | none=>simp [hl]
  | some x =>
   simp only [hl,Option.some.injEq]
   constructor
   ·rintro ⟨y, rfl, h1, h2⟩
    rw [if_pos h1,succsL_mem]
    exact⟨h2,hc⟩
   ·intro h1
    split at h1
    ·rename_i h2
     exact⟨x,rfl,h2,(succsL_mem.1 h1).1⟩
    ·cases h1
structure LInv (n : Nat) (l : List Ins) : Prop where
 wf:WfB n l
 fr:Ycj l
 mid:∀(i:Nat) x,l[i]? = some x→i+1<l.length→x.op=25∨x.to = []
 fin:∀x,l.getLast? = some x→x.op≠25∧(x.op=31∨x.op=32∨x.to = [])∧∀t,t∈x.to→1≤t
 srt:∀x,x∈l→x.op=25→x.to.Pairwise (· < ·)
 sz:∀x,x∈l→x.args.length≤2000000∧x.to.length≤2000000
def PInv (bs:List (List Ins)) (c:Nat) (l:List Ins):Prop:=∀x,x∈l→x.op=25→c≠0∧∀p:Int,p∈x.to↔(0≤p∧Qr bs p.toNat c)
structure TInv (bs : List (List Ins)) : Prop where
 pos:0<bs.length
 size:mz bs≤2000000
 loc:∀(c:Nat) l,bs[c]? = some l→LInv bs.length l
 phi:∀(c:Nat) l,bs[c]? = some l→PInv bs c l
theorem Ybx {bs:List (List Ins)} {p:Nat} {c:Int} (h:Qr bs p c):p<bs.length:=by
 obtain⟨x,h1, -, -⟩:=h
 unfold endI at h1
 cases hp:bs[p]? with
 | none=>rw [hp] at h1;cases h1
 | some l=>exact(Js.1 hp).1
theorem LInv.kinds {n:Nat} {l:List Ins} (h:LInv n l) {x:Ins} (hx:x∈l):x.op=25∨x.to = []∨(l.getLast? = some x∧(x.op=31∨x.op=32)):=by
 obtain⟨i,hi⟩:=List.mem_iff_getElem?.1 hx
 have hil:=(Js.1 hi).1
 by_cases h1:i+1<l.length
 ·rcases h.mid i x hi h1 with h2 | h2
  ·exact .inl h2
  ·exact .inr (.inl h2)
 ·have hlast:l.getLast? = some x:=by
   rw [List.getLast?_eq_getElem?,show l.length - 1=i by omega]
   exact hi
  obtain⟨h2,h3, -⟩:=h.fin x hlast
  rcases h3 with h4|h4|h4
  ·exact .inr (.inr ⟨hlast, .inl h4⟩)
  ·exact .inr (.inr ⟨hlast, .inr h4⟩)
  ·exact .inr (.inl h4)
section
variable {gone:List Bool} {n:Nat}
def Kept (gone:List Bool) (c:Nat):Prop:=gone.getD c false=false
theorem leftN_lt {a b:Nat} (hab:a<b) (hb:b≤gone.length) (hk:Kept gone a):Ys gone a<Ys gone b:=by
 induction b with
 | zero=>omega
 | succ b ih =>
  have h1:gone[b]? = some (gone[b]'(by omega)):=Jg _
  rw [Ybc h1]
  by_cases h2:a=b
  ·subst h2
   have h3:gone[a]'(by omega)=false:=by
    unfold Kept at hk
    rw [Jq,h1] at hk
    exact hk
   rw [h3];simp
  ·have := ih (by omega) (by omega)
   omega
theorem leftN_inj {a b:Nat} (ha:a<gone.length) (hb:b<gone.length) (hka:Kept gone a) (hkb:Kept gone b) (h:Ys gone a=Ys gone b):a=b:=by
 rcases Nat.lt_trichotomy a b with h1|h1|h1
 ·have:=leftN_lt h1 (by omega) hka;omega
 ·exact h1
 ·have:=leftN_lt h1 (by omega) hkb;omega
theorem keptN_at (hn:n=gone.length) {c:Nat} (hc:c<n) (hk:Kept gone c):(Zz gone n)[Ys gone c]? = some c:=by
 subst hn
 have h1:Zz gone gone.length=Zz gone (c+1)++((List.range' (c+1) (gone.length - (c+1))).filter fun b => !(gone.getD b false)):=by
  unfold Zz
  rw [←List.filter_append]
  congr 1
  rw [List.range_eq_range',List.range_eq_range']
  have:=List.range'_append_1 (s:=0) (m:=c+1) (n:=gone.length - (c+1))
  rw [Nat.zero_add] at this
  rw [this,show c+1+(gone.length - (c+1))=gone.length by omega]
 have h2:gone[c]? = some false:=by
  unfold Kept at hk
  rw [Jq] at hk
  rw [Jg hc] at hk⊢
  simpa using hk
 have h3:=keptN_len (gone:=gone) (b:=c) (by omega)
 rw [h1,keptN_next h2,List.append_assoc,List.getElem?_append_right (by omega),h3,Nat.sub_self]
 rfl
theorem keptN_kept {c:Nat} (h:c∈Zz gone n):c<n∧Kept gone c:=by
 obtain⟨h1,h2⟩:=List.mem_filter.1 h
 exact⟨List.mem_range.1 h1,by simpa [Kept] using h2⟩
theorem keptN_left (hn:n=gone.length) {c c':Nat} (h:(Zz gone n)[c']? = some c):Ys gone c=c':=by
 have h1:=keptN_kept (Jm h)
 have h2:=keptN_at hn h1.1 h1.2
 have h3:=(Js.1 h).1
 have h4:=(Js.1 h2).1
 have h5:=keptN_nodup gone n
 rw [Jg h3] at h
 rw [Jg h4] at h2
 exact(List.getElem_inj h5).1 ((Option.some.inj h2).trans (Option.some.inj h).symm)
theorem without_at (bs:List (List Ins)) {c':Nat} {l':List Ins} (h:(Yn gone bs)[c']? = some l') (hn:bs.length=gone.length):∃c l,bs[c]? = some l∧Kept gone c∧Ys gone c=c'∧l'=l.map (renI gone):=by
 unfold Yn at h
 rw [List.getElem?_map] at h
 cases hc:(Zz gone bs.length)[c']? with
 | none=>rw [hc] at h;cases h
 | some c =>
  rw [hc] at h
  cases h
  have h1:=keptN_kept (Jm hc)
  exact⟨c,bs.getD c [],Zq h1.1,h1.2,keptN_left hn hc,rfl⟩
theorem without_get (bs:List (List Ins)) {c:Nat} {l:List Ins} (h:bs[c]? = some l) (hn:bs.length=gone.length) (hk:Kept gone c):(Yn gone bs)[Ys gone c]? = some (l.map (renI gone)):=by
 unfold Yn
 rw [List.getElem?_map,keptN_at hn (Js.1 h).1 hk]
 simp only [Option.map_some,Jq,h,Option.getD_some]
theorem without_len (bs:List (List Ins)):(Yn gone bs).length=(Zz gone bs.length).length:=by unfold Yn;simp
theorem renI_op (x:Ins):(renI gone x).op=x.op:=rfl
theorem renI_to (x:Ins):(renI gone x).to=x.to.map (renT gone):=rfl
theorem renI_args (x:Ins):(renI gone x).args=x.args:=rfl
end
theorem map_last {g:Ins→Ins} {l:List Ins} {y:Ins} (h:(l.map g).getLast? = some y):∃x,l.getLast? = some x∧y=g x:=by
 rw [List.getLast?_map] at h
 cases hl:l.getLast? with
 | none=>rw [hl] at h;cases h
 | some x=>rw [hl] at h;cases h;exact⟨x,rfl,rfl⟩
theorem LInv.map {n n' : Nat} {l : List Ins} (h : LInv n l) (g : Ins → Ins) (hop : ∀ x, (g x).op = x.op) (hargs : ∀ x, x ∈ l → x.op ≠ 25 → (g x).args.length = x.args.length) (hto : ∀ x, x ∈ l → x.op ≠ 25 → (g x).to.length = x.to.length)
  (hlen:∀x,x∈l→x.op=25→(g x).args.length=(g x).to.length) (hsrt:∀x,x∈l→x.op=25→(g x).to.Pairwise (· < ·)) (hrng:∀x,x∈l→∀t,t∈(g x).to→0≤t∧t<n') (hone:∀x,l.getLast? = some x→∀t,t∈(g x).to→1≤t) (hsz:∀x,x∈l→x.op=25→(g x).to.length≤x.to.length):LInv n' (l.map g):=by
 refine⟨⟨?_,?_,?_,?_,?_⟩,?_,?_,?_,?_,?_⟩
 ·have := h.wf.ne
  intro e
  exact this (List.map_eq_nil_iff.1 e)
 ·intro y hy ho
  obtain⟨x,hx,rfl⟩:=List.mem_map.1 hy
  rw [hop] at ho
  rw [hargs x hx (by omega),hto x hx (by omega)]
  exact h.wf.brif x hx ho
 ·intro y hy ho
  obtain⟨x,hx,rfl⟩:=List.mem_map.1 hy
  rw [hop] at ho
  rw [hto x hx (by omega)]
  exact h.wf.br x hx ho
 ·intro y hy ho
  obtain⟨x,hx,rfl⟩:=List.mem_map.1 hy
  rw [hop] at ho
  exact hlen x hx ho
 ·intro y hy t ht
  obtain⟨x,hx,rfl⟩:=List.mem_map.1 hy
  exact hrng x hx t ht
 ·intro i j y z hy hz hij ho
  rw [List.getElem?_map] at hy hz
  cases hi:l[i]? with
  | none=>rw [hi] at hy;cases hy
  | some x =>
   cases hj:l[j]? with
   | none=>rw [hj] at hz;cases hz
   | some x' =>
    rw [hi] at hy
    rw [hj] at hz
    cases hy;cases hz
    rw [hop] at ho⊢
    exact h.fr i j x x' hi hj hij ho
 ·intro i y hy hl
  rw [List.getElem?_map] at hy
  cases hi:l[i]? with
  | none=>rw [hi] at hy;cases hy
  | some x =>
   rw [hi] at hy
   cases hy
   rw [List.length_map] at hl
   rcases h.mid i x hi hl with h1|h1
   ·left;rw [hop];exact h1
   ·by_cases h25 : x.op = 25
    ·left;rw [hop];exact h25
    ·right
     refine List.eq_nil_of_length_eq_zero ?_
     rw [hto x (Jm hi) h25,h1];rfl
 ·intro y hy
  obtain⟨x,hx,rfl⟩:=map_last hy
  obtain⟨h1,h2, -⟩:=h.fin x hx
  refine⟨by rw [hop];exact h1,?_,hone x hx⟩
  rw [hop]
  rcases h2 with h2|h2|h2
  ·exact .inl h2
  ·exact .inr (.inl h2)
  ·right; right
   refine List.eq_nil_of_length_eq_zero ?_
   rw [hto x (List.mem_of_getLast? hx) h1,h2];rfl
 ·intro y hy ho
  obtain⟨x,hx,rfl⟩:=List.mem_map.1 hy
  rw [hop] at ho
  exact hsrt x hx ho
 ·intro y hy
  obtain⟨x,hx,rfl⟩:=List.mem_map.1 hy
  have h1:=h.sz x hx
  by_cases h25:x.op=25
  ·have h2 := hlen x hx h25
   have h3:=hsz x hx h25
   omega
  ·rw [hargs x hx h25,hto x hx h25];exact h1
theorem sorted_ren {gone:List Bool} {tl:List Int} (hs:tl.Pairwise (· < ·)) (hk:∀t,t∈tl→0≤t∧t<gone.length∧Kept gone t.toNat):(tl.map (renT gone)).Pairwise (· < ·):=by
 rw [List.pairwise_map]
 refine hs.imp_of_mem fun {a b} ha hb hab => ?_
 obtain⟨a1,a2,a3⟩:=hk a ha
 obtain⟨b1,b2,b3⟩:=hk b hb
 have:=leftN_lt (gone:=gone) (a:=a.toNat) (b:=b.toNat) (by omega) (by omega) a3
 unfold renT
 omega
theorem mz_cons (l:List Ins) (bs:List (List Ins)):mz (l :: bs)=wt l+mz bs:=by simp [mz]
theorem mz_append (a b:List (List Ins)):mz (a++b)=mz a+mz b:=by simp [mz]
theorem wt_map {g:Ins→Ins} (hop:∀x,(g x).op=x.op) (l:List Ins):wt (l.map g)=wt l:=by
 unfold wt
 rw [List.length_map,List.countP_map]
 congr 1
 refine List.countP_congr fun x _ => ?_
 simp [hop]
theorem mz_len (bs:List (List Ins)):bs.length≤mz bs:=by
 induction bs with
 | nil=>simp [mz]
 | cons l bs ih=>rw [mz_cons];unfold wt;simp only [List.length_cons];omega
theorem mz_mem {bs:List (List Ins)} {l:List Ins} (h:l∈bs):wt l≤mz bs:=by
 induction bs with
 | nil=>cases h
 | cons y bs ih =>
  rw [mz_cons]
  rcases List.mem_cons.1 h with h1|h1
  ·subst h1;omega
  ·have:=ih h1;omega
theorem mz_set {bs:List (List Ins)} {b:Nat} {l l':List Ins} (h:bs[b]? = some l):mz (bs.set b l')+wt l=mz bs+wt l':=by
 induction bs generalizing b with
 | nil=>simp at h
 | cons y bs ih =>
  cases b with
  | zero=>cases h;rw [List.set_cons_zero,mz_cons,mz_cons];omega
  | succ b=>rw [List.set_cons_succ,mz_cons,mz_cons];have:=ih (by simpa using h);omega
theorem mz_kept {bs : List (List Ins)} (gone : List Bool) : ∀ (k : Nat), k ≤ bs.length → mz ((Zz gone k).map fun b => (bs.getD b []).map (renI gone)) + ((List.range k).filter fun b => gone.getD b false).length ≤ mz (bs.take k)
 | 0,_=>by simp [Zz,mz]
 | k+1,hk=>by
  have ih:=mz_kept (bs:=bs) gone k (by omega)
  have h1:bs[k]? = some (bs.getD k []):=Zq (l:=bs) (by omega)
  have e1:bs.take (k+1)=bs.take k ++ [bs.getD k []]:=Zk h1
  have e2:Zz gone (k+1)=Zz gone k++(if gone.getD k false=true then [] else [k]):=by
   unfold Zz
   rw [List.range_succ,List.filter_append,List.filter_cons]
   cases gone.getD k false<;>simp
  rw [e1,e2,List.map_append,mz_append,mz_append,List.range_succ,List.filter_append,List.length_append]
  have e3:mz [bs.getD k []]=wt (bs.getD k []):=by simp [mz]
  have e4:1≤wt (bs.getD k []):=by unfold wt;omega
  rw [e3]
  have a1:mz (List.map (fun b=>(bs.getD b []).map (renI gone)) (if gone.getD k false=true then [] else [k]))+(List.filter (fun b=>gone.getD b false) [k]).length≤wt (bs.getD k []):=by
   cases hg:gone.getD k false with
   | true =>
    rw [if_pos rfl,List.filter_cons,hg,if_pos rfl]
    simpa [mz] using e4
   | false =>
    rw [if_neg (by decide),List.filter_cons,hg,if_neg (by decide)]
    have e6:mz (List.map (fun b=>(bs.getD b []).map (renI gone)) [k])=wt ((bs.getD k []).map (renI gone)):=by simp only [mz,List.map_cons,List.map_nil,List.sum_cons,List.sum_nil,Nat.add_zero]
    rw [e6,wt_map (fun x=>renI_op x)]
    exact Nat.le_refl _
  omega
theorem mz_without {bs:List (List Ins)} {gone:List Bool}:mz (Yn gone bs)+((List.range bs.length).filter fun b=>gone.getD b false).length≤mz bs:=by
 have:=mz_kept (bs:=bs) gone bs.length (Nat.le_refl _)
 rw [List.take_length] at this
 exact this
theorem TInv.without {bs : List (List Ins)} {gone : List Bool} (hn : bs.length = gone.length) (h0 : Kept gone 0) (hpos : 0 < bs.length) (hsz : mz bs ≤ 2000000)
  (hloc:∀(c:Nat) l,bs[c]? = some l→Kept gone c→LInv bs.length l) (hto:∀(c:Nat) l,bs[c]? = some l→Kept gone c→∀x,x∈l→∀t,t∈x.to→Kept gone t.toNat)
  (hphi:∀(c:Nat) l,bs[c]? = some l→Kept gone c→∀x,x∈l→x.op=25→c≠0∧∀p:Int,p∈x.to↔(0≤p∧Kept gone p.toNat∧Qr bs p.toNat c)):TInv (Yn gone bs):=by
 have hlen:=without_len (gone:=gone) bs
 have hleft:∀c,c<bs.length→Kept gone c→Ys gone c<(Yn gone bs).length:=fun c hc hk=>by
  rw [hlen]
  exact(Js.1 (keptN_at hn hc hk)).1
 have hend:∀p c,p<bs.length→c<bs.length→Kept gone p→Kept gone c→(Qr (Yn gone bs) (Ys gone p) (Ys gone c)↔Qr bs p c):=fun p c hp hc hkp hkc=>by
  have hb:bs[p]? = some (bs.getD p []):=Zq hp
  have hb':=without_get bs hb hn hkp
  unfold Qr
  rw [Zg hb,Zg hb',List.getLast?_map]
  cases hl:(bs.getD p []).getLast? with
  | none=>simp
  | some x =>
   have hx:x∈bs.getD p []:=List.mem_of_getLast? hl
   simp only [Option.map_some,Option.some.injEq]
   constructor
   ·rintro ⟨y, rfl, h1, h2⟩
    rw [renI_op] at h1
    rw [renI_to] at h2
    obtain⟨t,ht,h3⟩:=List.mem_map.1 h2
    have hr:=(hloc p _ hb hkp).wf.to_ x hx t ht
    have hk:=hto p _ hb hkp x hx t ht
    have:t.toNat=c:=leftN_inj (by omega) (by omega) hk hkc (by unfold renT at h3;omega)
    refine⟨x,rfl,h1,?_⟩
    rw [show(c:Int)=t by omega]
    exact ht
   ·rintro ⟨y, rfl, h1, h2⟩
    refine⟨renI gone x,rfl,h1,?_⟩
    rw [renI_to]
    exact List.mem_map.2 ⟨(c:Int),h2,by unfold renT;rw [Int.toNat_natCast]⟩
 refine⟨?_,?_,fun c' l' hl' => ?_,fun c' l' hl' => ?_⟩
 ·have := hleft 0 hpos h0
  omega
 ·have := mz_without (bs := bs) (gone := gone)
  omega
 ·obtain ⟨c, l, hl, hk, hc, rfl⟩ := without_at bs hl' hn
  have hli:=hloc c l hl hk
  refine hli.map (renI gone) (fun x=>rfl) (fun x _ _=>rfl) (fun x _ _=>by rw [renI_to,List.length_map]) (fun x hx ho => ?_) (fun x hx ho => ?_) (fun x hx t ht => ?_) (fun x hx t ht => ?_) (fun x hx ho => ?_)
  ·rw [renI_args, renI_to, List.length_map]
   exact hli.wf.phi x hx ho
  ·rw [renI_to]
   refine sorted_ren (hli.srt x hx ho) fun t ht => ?_
   have:=hli.wf.to_ x hx t ht
   exact⟨this.1,by omega,hto c l hl hk x hx t ht⟩
  ·rw [renI_to] at ht
   obtain⟨s,hs,rfl⟩:=List.mem_map.1 ht
   have h1:=hli.wf.to_ x hx s hs
   have h2:=hleft s.toNat (by omega) (hto c l hl hk x hx s hs)
   unfold renT
   omega
  ·rw [renI_to] at ht
   obtain⟨s,hs,rfl⟩:=List.mem_map.1 ht
   have h1:=(hli.fin x hx).2.2 s hs
   have h3:Ys gone 0=0:=by simp [Ys]
   have hxm:=List.mem_of_getLast? hx
   have h4:=hli.wf.to_ x hxm s hs
   have h2:=leftN_lt (gone:=gone) (a:=0) (b:=s.toNat) (by omega) (by omega) h0
   unfold renT
   omega
  ·rw [renI_to,List.length_map];exact Nat.le_refl _
 ·obtain ⟨c, l, hl, hk, hc, rfl⟩ := without_at bs hl' hn
  have hcl:=(Js.1 hl).1
  intro y hy ho
  obtain⟨x,hx,rfl⟩:=List.mem_map.1 hy
  obtain⟨h1,h2⟩:=hphi c l hl hk x hx ho
  have h3:Ys gone 0=0:=by simp [Ys]
  refine⟨?_,fun p => ?_⟩
  ·have := leftN_lt (gone := gone) (a := 0) (b := c) (by omega) (by omega) h0
   omega
  ·rw [renI_to, List.mem_map, ← hc]
   constructor
   ·rintro ⟨q, hq, rfl⟩
    obtain⟨q0,q1,q2⟩:=(h2 q).1 hq
    have q3:=Ybx q2
    refine⟨by unfold renT;omega,?_⟩
    unfold renT
    rw [Int.toNat_natCast]
    exact(hend q.toNat c q3 hcl q1 hk).2 q2
   ·rintro ⟨p0, p1⟩
    have p2:=Ybx p1
    rw [hlen] at p2
    obtain⟨q,hq⟩:∃q,(Zz gone bs.length)[p.toNat]? = some q:=⟨_,Jg p2⟩
    have q1:=keptN_kept (Jm hq)
    have q2:=keptN_left hn hq
    rw [←q2] at p1
    refine⟨(q:Int),(h2 q).2 ⟨by omega,by rw [Int.toNat_natCast];exact q1.2,by rw [Int.toNat_natCast];exact(hend q c q1.1 hcl q1.2 hk).1 p1⟩,?_⟩
    unfold renT
    rw [Int.toNat_natCast,q2]
    omega
def Y7 (p:Int) (x:Ins):Ins:=if x.op=25 then Qy p x else x
theorem dropPhi_op (p:Int) (x:Ins):(Y7 p x).op=x.op:=by
 unfold Y7
 split
 ·exact dropP_op p x
 ·rfl
theorem fronts_tail {y:Ins} {l:List Ins} (h:Ycj (y :: l)):Ycj l:=fun i j x x' hi hj hij ho=>h (i+1) (j+1) x x' (by simpa using hi) (by simpa using hj) (by omega) ho
theorem loseL_map {p : Int} : ∀ {l : List Ins}, Ycj l → Yar p l = l.map (Y7 p)
 | [],_=>by simp [Yar]
 | y :: l,h=>by
  by_cases ho:y.op=25
  ·have hy : Ya7 y = true := by unfold Ya7; rw [beq_iff_eq]; exact ho
   have ih:=loseL_map (p:=p) (fronts_tail h)
   unfold Yar at ih⊢
   rw [List.takeWhile_cons,List.dropWhile_cons,hy,if_pos rfl,if_pos rfl,List.map_cons,List.cons_append,ih,List.map_cons]
   congr 1
   unfold Y7
   rw [if_pos ho]
  ·have hy : Ya7 y = false := by unfold Ya7; rw [beq_eq_false_iff_ne]; exact ho
   have hno:=fronts_none h (by simpa using ho)
   unfold Yar
   rw [List.takeWhile_cons,List.dropWhile_cons,hy,if_neg (by decide),if_neg (by decide),List.map_nil,List.nil_append]
   exact((List.map_congr_left (g:=id) fun x hx=>by unfold Y7;rw [if_neg (hno x hx)];rfl).trans (List.map_id _)).symm
theorem dropP_mem {p q:Int} {x:Ins} (hs:x.to.Pairwise (· < ·)):q∈(Qy p x).to↔q∈x.to∧q≠p:=by
 have hnd:x.to.Nodup:=hs.imp (fun {a b} h=>by omega)
 unfold Qy
 by_cases hp:p∈x.to
 ·rw [if_pos hp]
  show q∈x.to.eraseIdx (x.to.idxOf p)↔_
  rw [←List.erase_eq_eraseIdx_of_idxOf rfl,hnd.mem_erase_iff]
  constructor
  ·rintro⟨h1,h2⟩;exact⟨h2,h1⟩
  ·rintro⟨h1,h2⟩;exact⟨h2,h1⟩
 ·rw [if_neg hp]
  constructor
  ·intro h;exact⟨h,fun e=>hp (e▸h)⟩
  ·rintro⟨h, -⟩;exact h
theorem dropP_sub (p:Int) (x:Ins):(Qy p x).to.Sublist x.to:=by
 unfold Qy
 split
 ·exact List.eraseIdx_sublist _ _
 ·exact List.Sublist.refl _
theorem LInv.lose {n:Nat} {l:List Ins} (h:LInv n l) (p:Int):LInv n (l.map (Y7 p)):=by
 have hne:∀x,x.op≠25→Y7 p x=x:=fun x ho=>by unfold Y7;rw [if_neg ho]
 have he:∀x,x.op=25→Y7 p x=Qy p x:=fun x ho=>by unfold Y7;rw [if_pos ho]
 refine h.map (Y7 p) (dropPhi_op p) (fun x _ ho=>by rw [hne x ho]) (fun x _ ho=>by rw [hne x ho]) (fun x hx ho => ?_) (fun x hx ho => ?_) (fun x hx t ht => ?_) (fun x hx t ht => ?_) (fun x hx ho => ?_)
 ·rw [he x ho];exact phiLen_drop (h.wf.phi x hx ho)
 ·rw [he x ho];exact(h.srt x hx ho).sublist (dropP_sub p x)
 ·by_cases ho : x.op = 25
  ·rw [he x ho] at ht;exact h.wf.to_ x hx t (dropP_to ht)
  ·rw [hne x ho] at ht;exact h.wf.to_ x hx t ht
 ·obtain ⟨h1, -, h3⟩ := h.fin x hx
  rw [hne x h1] at ht
  exact h3 t ht
 ·rw [he x ho];exact(dropP_sub p x).length_le
theorem setEnd_eq {l ys:List Ins} {x y:Ins} (h:l=ys ++ [x]):setEnd l y=ys ++ [y]:=by
 subst h
 unfold setEnd
 rw [List.length_append,List.length_singleton,Nat.add_sub_cancel,List.set_append_right _ _ (Nat.le_refl _),Nat.sub_self,List.set_cons_zero]
theorem endI_set {bs:List (List Ins)} {b p:Nat} {l l':List Ins} (hb:bs[b]? = some l):endI (bs.set b l') p=if p=b then l'.getLast? else endI bs p:=by
 have hbl:=(Js.1 hb).1
 by_cases e:p=b
 ·subst e
  rw [if_pos rfl,Zg (l:=l') (by rw [Jf hbl])]
 ·rw [if_neg e]
  unfold endI
  rw [Je (Ne.symm e)]
theorem LInv.setEnd {n:Nat} {l:List Ins} (h:LInv n l) {t:Int} (ht:1≤t∧t<n):LInv n (setEnd l (brJ t)):=by
 obtain⟨x,hx⟩:∃x,l.getLast? = some x:=by
  cases hl:l.getLast? with
  | none=>exact absurd (List.getLast?_eq_none_iff.1 hl) h.wf.ne
  | some x=>exact⟨x,rfl⟩
 obtain⟨ys,hys⟩:=List.getLast?_eq_some_iff.1 hx
 rw [setEnd_eq hys]
 have hin:∀y,y∈ys ++ [brJ t]→y∈l∨y=brJ t:=fun y hy=>by
  rcases List.mem_append.1 hy with h1|h1
  ·left;rw [hys];exact List.mem_append_left _ h1
  ·right;exact List.mem_singleton.1 h1
 have hop:(brJ t).op=31:=rfl
 refine⟨⟨by simp,fun y hy ho => ?_,fun y hy ho => ?_,fun y hy ho => ?_,fun y hy s hs => ?_⟩,fun i j y z hi hj hij ho => ?_,fun i y hi hl => ?_,fun y hy => ?_,fun y hy ho => ?_,fun y hy => ?_⟩
 ·rcases hin y hy with h1 | h1
  ·exact h.wf.brif y h1 ho
  ·rw [h1,hop] at ho;omega
 ·rcases hin y hy with h1 | h1
  ·exact h.wf.br y h1 ho
  ·rw [h1];rfl
 ·rcases hin y hy with h1 | h1
  ·exact h.wf.phi y h1 ho
  ·rw [h1,hop] at ho;omega
 ·rcases hin y hy with h1 | h1
  ·exact h.wf.to_ y h1 s hs
  ·rw [h1] at hs
   have:s=t:=List.mem_singleton.1 hs
   omega
 ·have hjl:j<ys.length:=by
   rcases Nat.lt_or_ge j ys.length with h1|h1
   ·exact h1
   ·rw [List.getElem?_append_right h1] at hj
    have h2:=(Js.1 hj).1
    simp only [List.length_singleton] at h2
    rw [show j - ys.length=0 by omega] at hj
    cases hj
    rw [hop] at ho
    omega
  rw [List.getElem?_append_left hjl] at hj
  rw [List.getElem?_append_left (by omega)] at hi
  exact h.fr i j y z (by rw [hys,List.getElem?_append_left (by omega)];exact hi) (by rw [hys,List.getElem?_append_left hjl];exact hj) hij ho
 ·rw [List.length_append, List.length_singleton] at hl
  rw [List.getElem?_append_left (by omega)] at hi
  exact h.mid i y (by rw [hys,List.getElem?_append_left (by omega)];exact hi) (by rw [hys,List.length_append,List.length_singleton];omega)
 ·rw [List.getLast?_concat] at hy
  cases hy
  refine⟨by rw [hop];omega, .inl hop,fun s hs => ?_⟩
  have:s=t:=List.mem_singleton.1 hs
  omega
 ·rcases hin y hy with h1 | h1
  ·exact h.srt y h1 ho
  ·rw [h1,hop] at ho;omega
 ·rcases hin y hy with h1 | h1
  ·exact h.sz y h1
  ·rw [h1];exact⟨by simp [brJ],by simp [brJ]⟩
theorem wt_setEnd {l:List Ins} {x y:Ins} (hx:l.getLast? = some x) (h32:x.op=32) (hy:y.op≠32):wt (setEnd l y)+1=wt l:=by
 obtain⟨ys,hys⟩:=List.getLast?_eq_some_iff.1 hx
 rw [setEnd_eq hys,hys]
 unfold wt
 rw [List.length_append,List.length_append,List.countP_append,List.countP_append]
 have e1:List.countP (fun x=>x.op==32) [x]=1:=by simp [h32]
 have e2:List.countP (fun x=>x.op==32) [y]=0:=by simp [hy]
 rw [e1,e2]
 simp only [List.length_singleton]
 omega
theorem TInv.jump {bs : List (List Ins)} (h : TInv bs) {b : Nat} {l : List Ins} {x : Ins} (hb : bs[b]? = some l) (hx : l.getLast? = some x) (h32 : x.op = 32) {t o : Int} (ht : ∀ c, c ∈ x.to ↔ c = t ∨ c = o) :
  mz (bs.set b (setEnd l (brJ t)))<mz bs∧(o=t→TInv (bs.set b (setEnd l (brJ t))))∧(o≠t→TInv (loseB b (bs.set b (setEnd l (brJ t))) o.toNat))∧mz (loseB b (bs.set b (setEnd l (brJ t))) o.toNat)<mz bs:=by
 have hbl:=(Js.1 hb).1
 have hL:=h.loc b l hb
 have hxm:=List.mem_of_getLast? hx
 have htr:1≤t∧t<bs.length:=⟨(hL.fin x hx).2.2 t ((ht t).2 (.inl rfl)),(hL.wf.to_ x hxm t ((ht t).2 (.inl rfl))).2⟩
 have hor:1≤o∧o<bs.length:=⟨(hL.fin x hx).2.2 o ((ht o).2 (.inr rfl)),(hL.wf.to_ x hxm o ((ht o).2 (.inr rfl))).2⟩
 have hL1:=hL.setEnd htr
 obtain⟨ys,hys⟩:=List.getLast?_eq_some_iff.1 hx
 have hlast1:(setEnd l (brJ t)).getLast? = some (brJ t):=by rw [setEnd_eq hys,List.getLast?_concat]
 have hend:∀p c,Qr (bs.set b (setEnd l (brJ t))) p c↔(p=b∧c=t)∨(p≠b∧Qr bs p c):=fun p c=>by
  unfold Qr
  rw [endI_set hb]
  by_cases e:p=b
  ·rw [if_pos e, hlast1]
   constructor
   ·rintro ⟨y, hy, h1, h2⟩
    cases hy
    exact .inl ⟨e,List.mem_singleton.1 h2⟩
   ·rintro (⟨-, h1⟩ | ⟨h1, -⟩)
    ·exact⟨brJ t,rfl, .inl rfl,List.mem_singleton.2 h1⟩
    ·exact absurd e h1
  ·rw [if_neg e]
   constructor
   ·intro h1;exact .inr ⟨e,h1⟩
   ·rintro (⟨h1, -⟩ | ⟨-, h1⟩)
    ·exact absurd h1 e
    ·exact h1
 have hbend:∀c,Qr bs b c↔c=t∨c=o:=fun c=>by
  unfold Qr
  rw [Zg hb,hx]
  constructor
  ·rintro ⟨y, hy, -, h2⟩
   cases hy
   exact(ht c).1 h2
  ·intro h1
   exact⟨x,rfl, .inr h32,(ht c).2 h1⟩
 have hm1:mz (bs.set b (setEnd l (brJ t)))+1=mz bs:=by
  have h1:=mz_set (l':=setEnd l (brJ t)) hb
  have h2:=wt_setEnd (y:=brJ t) hx h32 (by show(31:Int)≠32;omega)
  omega
 have hloc1:∀(c:Nat) l',(bs.set b (setEnd l (brJ t)))[c]? = some l'→LInv bs.length l'∧∃l0,bs[c]? = some l0∧∀y,y∈l'→y.op=25→y∈l0:=fun c l' hl'=>by
  by_cases e:c=b
  ·subst e
   rw [Jf hbl] at hl'
   cases hl'
   refine⟨hL1,l,hb,fun y hy ho => ?_⟩
   rw [setEnd_eq hys] at hy
   rcases List.mem_append.1 hy with h1|h1
   ·rw [hys];exact List.mem_append_left _ h1
   ·rw [List.mem_singleton.1 h1] at ho
    have:(31:Int)=25:=ho
    omega
  ·rw [Je (Ne.symm e)] at hl'
   exact⟨h.loc c l' hl',l',hl',fun y hy _=>hy⟩
 have hoc:o.toNat<(bs.set b (setEnd l (brJ t))).length:=by rw [List.length_set];omega
 have hlo:(bs.set b (setEnd l (brJ t)))[o.toNat]? = some ((bs.set b (setEnd l (brJ t))).getD o.toNat []):=Zq hoc
 have hlos:=loseL_map (p:=(b:Int)) (hloc1 _ _ hlo).1.fr
 have hm2:mz (loseB b (bs.set b (setEnd l (brJ t))) o.toNat)=mz (bs.set b (setEnd l (brJ t))):=by
  unfold loseB
  have h1:=mz_set (l':=Yar (b:Int) ((bs.set b (setEnd l (brJ t))).getD o.toNat [])) hlo
  rw [hlos,wt_map (dropPhi_op _)] at h1
  rw [hlos]
  omega
 refine⟨by omega,fun e => ?_,fun e => ?_,by omega⟩
 ·refine ⟨by rw [List.length_set]; exact h.pos, by have := h.size; omega, fun c l' hl' => by rw [List.length_set]; exact (hloc1 c l' hl').1, fun c l' hl' y hy ho => ?_⟩
  obtain⟨-,l0,h0,h1⟩:=hloc1 c l' hl'
  obtain⟨h2,h3⟩:=h.phi c l0 h0 y (h1 y hy ho) ho
  refine⟨h2,fun p => ?_⟩
  rw [h3 p,hend]
  by_cases e1:p.toNat=b
  ·rw [e1, hbend]
   constructor
   ·rintro⟨h4,h5⟩;exact⟨h4, .inl ⟨rfl,by omega⟩⟩
   ·rintro ⟨h4, h5 | h5⟩
    ·exact⟨h4, .inl h5.2⟩
    ·exact absurd rfl h5.1
  ·constructor
   ·rintro⟨h4,h5⟩;exact⟨h4, .inr ⟨e1,h5⟩⟩
   ·rintro ⟨h4, h5 | h5⟩
    ·exact absurd h5.1 e1
    ·exact⟨h4,h5.2⟩
 ·have hat:∀(c:Nat) l',(loseB b (bs.set b (setEnd l (brJ t))) o.toNat)[c]? = some l'→∃l1,(bs.set b (setEnd l (brJ t)))[c]? = some l1∧((c=o.toNat∧l'=l1.map (Y7 b))∨(c≠o.toNat∧l'=l1)):=fun c l' hl'=>by
   unfold loseB at hl'
   by_cases e1:c=o.toNat
   ·subst e1
    rw [Jf hoc,hlos] at hl'
    cases hl'
    exact⟨_,hlo, .inl ⟨rfl,rfl⟩⟩
   ·rw [Je (Ne.symm e1)] at hl'
    exact⟨l',hl', .inr ⟨e1,rfl⟩⟩
  have hendL:∀p c,Qr (loseB b (bs.set b (setEnd l (brJ t))) o.toNat) p c↔Qr (bs.set b (setEnd l (brJ t))) p c:=fun p c=>by
   unfold Qr loseB
   rw [endI_set hlo]
   by_cases e1:p=o.toNat
   ·subst e1
    rw [if_pos rfl,hlos,Zg hlo,List.getLast?_map]
    cases hq:((bs.set b (setEnd l (brJ t))).getD o.toNat []).getLast? with
    | none=>simp
    | some y =>
     have hne:=((hloc1 _ _ hlo).1.fin y hq).1
     have hd:Y7 b y=y:=by unfold Y7;rw [if_neg hne]
     simp only [Option.map_some,hd]
   ·rw [if_neg e1]
  have hlenL:(loseB b (bs.set b (setEnd l (brJ t))) o.toNat).length=bs.length:=by rw [loseB_len,List.length_set]
  refine⟨by rw [hlenL];exact h.pos,by have:=h.size;omega,fun c l' hl' => ?_,fun c l' hl' y hy ho => ?_⟩
  ·rw [hlenL]
   obtain⟨l1,h1,⟨-,h2⟩|⟨-,h2⟩⟩:=hat c l' hl'
   ·rw [h2];exact(hloc1 c l1 h1).1.lose b
   ·rw [h2];exact(hloc1 c l1 h1).1
  ·obtain ⟨l1, h1, h2⟩ := hat c l' hl'
   obtain⟨hi,l0,h0,h01⟩:=hloc1 c l1 h1
   rcases h2 with⟨hc,rfl⟩|⟨hc,rfl⟩
   ·obtain ⟨z, hz, rfl⟩ := List.mem_map.1 hy
    rw [dropPhi_op] at ho
    obtain⟨g1,g2⟩:=h.phi c l0 h0 z (h01 z hz ho) ho
    refine⟨g1,fun p => ?_⟩
    have hd:Y7 b z=Qy b z:=by unfold Y7;rw [if_pos ho]
    rw [hd,dropP_mem (hi.srt z hz ho),g2 p,hendL,hend]
    constructor
    ·rintro⟨⟨h4,h5⟩,h6⟩;exact⟨h4, .inr ⟨by omega,h5⟩⟩
    ·rintro ⟨h4, h5 | h5⟩
     ·omega
     ·exact⟨⟨h4,h5.2⟩,by omega⟩
   ·obtain ⟨g1, g2⟩ := h.phi c l0 h0 y (h01 y hy ho) ho
    refine⟨g1,fun p => ?_⟩
    rw [g2 p,hendL,hend]
    by_cases e1:p.toNat=b
    ·rw [e1, hbend]
     constructor
     ·rintro⟨h4,h5⟩;exact⟨h4, .inl ⟨rfl,by omega⟩⟩
     ·rintro ⟨h4, h5 | h5⟩
      ·exact⟨h4, .inl h5.2⟩
      ·exact absurd rfl h5.1
    ·constructor
     ·rintro⟨h4,h5⟩;exact⟨h4, .inr ⟨e1,h5⟩⟩
     ·rintro ⟨h4, h5 | h5⟩
      ·exact absurd h5.1 e1
      ·exact⟨h4,h5.2⟩
theorem TInv.decided {bs bs':List (List Ins)} {R:List Bool} (h:TInv bs) (hd:Qd R bs=some bs'):TInv bs'∧mz bs'<mz bs:=by
 unfold Qd at hd
 cases hf:(List.range bs.length).find? (dcB R bs) with
 | none=>rw [hf] at hd;cases hd
 | some b =>
  rw [hf] at hd
  cases hd
  obtain⟨h1,h2, -⟩:=List.find?_range_eq_some.1 hf
  have hbl:=List.mem_range.1 h2
  have hb:bs[b]? = some (bs.getD b []):=Zq hbl
  unfold dcB at h1
  cases he:endI bs b with
  | none=>rw [he] at h1;simp at h1
  | some x =>
   rw [he] at h1
   have h32:x.op=32:=by simp at h1;exact h1.2.1
   have hx:(bs.getD b []).getLast? = some x:=by rw [←Zg hb];exact he
   have hxm:=List.mem_of_getLast? hx
   obtain⟨hto, -⟩:=(h.loc b _ hb).wf.brif x hxm h32
   obtain⟨t0,t1,hto⟩:∃t0 t1,x.to = [t0,t1]:=by
    match h9:x.to,hto with
    | [a,b],_=>exact⟨a,b,rfl⟩
   obtain⟨t,o,hgo,ht⟩:∃t o,Yaa x=(t,o)∧∀c,c∈x.to↔c=t∨c=o:=by
    unfold Yaa
    rw [hto]
    split
    ·exact⟨t0,t1,rfl,fun c=>by simp⟩
    ·exact⟨t1,t0,rfl,fun c=>by simp [or_comm]⟩
   obtain⟨g1,g2,g3,g4⟩:=h.jump hb hx h32 ht
   simp only [he,Option.map_some,Option.getD_some,hgo]
   unfold decAt
   by_cases e:o=t
   ·rw [if_pos e];exact⟨g2 e,g1⟩
   ·rw [if_neg e];exact⟨g3 e,g4⟩
theorem TInv.twice {bs bs':List (List Ins)} {R:List Bool} (h:TInv bs) (hd:Ya5 R bs=some bs'):TInv bs'∧mz bs'<mz bs:=by
 unfold Ya5 at hd
 cases hf:(List.range bs.length).find? (twB R bs) with
 | none=>rw [hf] at hd;cases hd
 | some b =>
  rw [hf] at hd
  cases hd
  obtain⟨h1,h2, -⟩:=List.find?_range_eq_some.1 hf
  have hbl:=List.mem_range.1 h2
  have hb:bs[b]? = some (bs.getD b []):=Zq hbl
  unfold twB at h1
  cases he:endI bs b with
  | none=>rw [he] at h1;simp at h1
  | some x =>
   rw [he] at h1
   have h32:x.op=32:=by simp at h1;exact h1.2.1
   have htt:x.to.getD 0 0=x.to.getD 1 0:=by simp only [Bool.and_eq_true,decide_eq_true_eq] at h1;exact h1.2.2
   have hx:(bs.getD b []).getLast? = some x:=by rw [←Zg hb];exact he
   have hxm:=List.mem_of_getLast? hx
   obtain⟨hto, -⟩:=(h.loc b _ hb).wf.brif x hxm h32
   obtain⟨t0,t1,hto⟩:∃t0 t1,x.to = [t0,t1]:=by
    match h9:x.to,hto with
    | [a,b],_=>exact⟨a,b,rfl⟩
   rw [hto] at htt
   have e:t0=t1:=by simpa using htt
   obtain⟨g1,g2, -, -⟩:=h.jump hb hx h32 (t:=t0) (o:=t1) (fun c=>by rw [hto];simp)
   simp only [he,Option.map_some,Option.getD_some,hto,Jq,List.getElem?_cons_zero]
   rw [Jq] at g1 g2
   exact⟨g2 e.symm,g1⟩
theorem phi_front {l:List Ins} {i:Nat} {x:Ins} (hi:i<(l.takeWhile Ya7).length) (hx:l[i]? = some x):x.op=25:=by
 induction l generalizing i with
 | nil=>simp at hx
 | cons y l ih =>
  rw [List.takeWhile_cons] at hi
  split at hi
  ·rename_i hy
   cases i with
   | zero=>cases hx;simpa [Ya7] using hy
   | succ i=>exact ih (by simpa using hi) (by simpa using hx)
  ·simp at hi
theorem LInv.erase {n i:Nat} {l:List Ins} {x:Ins} (h:LInv n l) (hx:l[i]? = some x) (h25:x.op=25):LInv n (l.eraseIdx i)∧(l.eraseIdx i).getLast? = l.getLast? := by
 have hil:=(Js.1 hx).1
 have hlen:(l.eraseIdx i).length=l.length - 1:=by rw [List.length_eraseIdx,if_pos hil]
 have hnl:i+1<l.length:=by
  rcases Nat.lt_or_ge (i+1) l.length with h1|h1
  ·exact h1
  ·have h2 : l.getLast? = some x := by rw [List.getLast?_eq_getElem?, show l.length - 1 = i by omega]; exact hx
   exact absurd h25 (h.fin x h2).1
 have hlast:(l.eraseIdx i).getLast? = l.getLast? := by
  rw [List.getLast?_eq_getElem?,List.getLast?_eq_getElem?,hlen,List.getElem?_eraseIdx,if_neg (by omega)]
  congr 1
  omega
 have hmem:∀y,y∈l.eraseIdx i→y∈l:=fun y hy=>List.mem_of_mem_eraseIdx hy
 refine⟨⟨⟨?_,fun y hy=>h.wf.brif y (hmem y hy),fun y hy=>h.wf.br y (hmem y hy),fun y hy=>h.wf.phi y (hmem y hy),fun y hy=>h.wf.to_ y (hmem y hy)⟩,fun a b y z ha hb hab ho => ?_,fun a y ha hl => ?_,fun y hy=>h.fin y (by rw [←hlast];exact hy),fun y hy=>h.srt y (hmem y hy),fun y hy=>h.sz y (hmem y hy)⟩,hlast⟩
 ·intro e
  rw [e] at hlen
  simp at hlen
  omega
 ·rw [List.getElem?_eraseIdx] at ha hb
  split at ha
  ·split at hb
   ·exact h.fr a b y z ha hb hab ho
   ·exact h.fr a (b+1) y z ha hb (by omega) ho
  ·split at hb
   ·omega
   ·exact h.fr (a+1) (b+1) y z ha hb (by omega) ho
 ·rw [List.getElem?_eraseIdx] at ha
  rw [hlen] at hl
  split at ha
  ·exact h.mid a y ha (by omega)
  ·exact h.mid (a+1) y ha (by omega)
theorem subIns_to (σ:Opd→Opd) (x:Ins):(subIns σ x).to=x.to:=rfl
theorem subIns_args (σ:Opd→Opd) (x:Ins):(subIns σ x).args=x.args.map σ:=rfl
theorem TInv.single {bs bs':List (List Ins)} {R:List Bool} (h:TInv bs) (hd:Qu R bs=some bs'):TInv bs'∧mz bs'<mz bs:=by
 unfold Qu at hd
 cases hf:(List.range bs.length).find? (sgB R bs) with
 | none=>rw [hf] at hd;cases hd
 | some b =>
  rw [hf] at hd
  simp only [Option.bind_some] at hd
  obtain⟨h1,h2, -⟩:=List.find?_range_eq_some.1 hf
  have hbl:=List.mem_range.1 h2
  have hb:bs[b]? = some (bs.getD b []):=Zq hbl
  obtain⟨l,hl⟩:∃l,l=bs.getD b []:=⟨_,rfl⟩
  rw [←hl] at hd hb
  cases hp:Q5 l with
  | none=>rw [hp] at hd;cases hd
  | some i =>
   rw [hp] at hd
   simp only [Option.bind_some] at hd
   cases hx:l[i]? with
   | none=>rw [hx] at hd;cases hd
   | some x =>
    rw [hx] at hd
    simp only [Option.bind_some] at hd
    cases hv:Yax x with
    | none=>rw [hv] at hd;cases hd
    | some v =>
     rw [hv] at hd
     simp only [Option.map_some,Option.some.injEq] at hd
     unfold Q5 at hp
     obtain⟨-,hi, -⟩:=List.find?_range_eq_some.1 hp
     have h25:=phi_front (List.mem_range.1 hi) hx
     obtain⟨hE,hlast⟩:=(h.loc b l hb).erase hx h25
     unfold Yaf at hd
     rw [←hl] at hd
     have hil:=(Js.1 hx).1
     have hend0:∀p,endI (bs.set b (l.eraseIdx i)) p=endI bs p:=fun p=>by
      rw [endI_set hb]
      by_cases e:p=b
      ·subst e;rw [if_pos rfl,hlast,Zg hb]
      ·rw [if_neg e]
     have hend:∀p c,Qr bs' p c↔Qr bs p c:=fun p c=>by
      rw [←hd]
      unfold Qr
      have e1:endI (Yal (rsub x.reg v) (bs.set b (l.eraseIdx i))) p=(endI bs p).map (subIns (rsub x.reg v)):=by
       rw [←hend0 p]
       unfold Yal endI
       rw [List.getElem?_map]
       cases hq:(bs.set b (l.eraseIdx i))[p]? with
       | none=>rfl
       | some q=>simp
      rw [e1]
      cases endI bs p with
      | none=>simp
      | some y =>
       simp only [Option.map_some,Option.some.injEq]
       constructor
       ·rintro⟨z,rfl,g1,g2⟩;exact⟨y,rfl,g1,g2⟩
       ·rintro⟨z,rfl,g1,g2⟩;exact⟨_,rfl,g1,g2⟩
     have hat:∀(c:Nat) l',bs'[c]? = some l'→∃l1,l'=l1.map (subIns (rsub x.reg v))∧LInv bs.length l1∧∃l0,bs[c]? = some l0∧∀y,y∈l1→y∈l0:=fun c l' hl'=>by
      rw [←hd] at hl'
      unfold Yal at hl'
      rw [List.getElem?_map] at hl'
      cases hq:(bs.set b (l.eraseIdx i))[c]? with
      | none=>rw [hq] at hl';cases hl'
      | some l1 =>
       rw [hq] at hl'
       cases hl'
       refine⟨l1,rfl,?_⟩
       by_cases e:c=b
       ·subst e
        rw [Jf hbl] at hq
        cases hq
        exact⟨hE,l,hb,fun y hy=>List.mem_of_mem_eraseIdx hy⟩
       ·rw [Je (Ne.symm e)] at hq
        exact⟨h.loc c l1 hq,l1,hq,fun y hy=>hy⟩
     have hlen:bs'.length=bs.length:=by rw [←hd];simp [Yal]
     have hmz:mz bs'<mz bs:=by
      have g1:=mz_set (l':=l.eraseIdx i) hb
      have g2:mz bs'=mz (bs.set b (l.eraseIdx i)):=by
       rw [←hd]
       unfold mz Yal
       rw [List.map_map]
       congr 1
       refine List.map_congr_left fun l1 _ => ?_
       exact wt_map (g:=subIns (rsub x.reg v)) (fun y=>rfl) l1
      have g3:wt (l.eraseIdx i)<wt l:=by
       unfold wt
       have g4:=(List.eraseIdx_sublist l i).countP_le (p:=fun x=>x.op==32)
       rw [List.length_eraseIdx,if_pos hil]
       omega
      omega
     refine⟨⟨by rw [hlen];exact h.pos,by have:=h.size;omega,fun c l' hl' => ?_,fun c l' hl' y hy ho => ?_⟩,hmz⟩
     ·rw [hlen]
      obtain⟨l1,rfl,hi1, -⟩:=hat c l' hl'
      refine hi1.map (subIns (rsub x.reg v)) (fun y=>rfl) (fun y _ _=>by rw [subIns_args,List.length_map]) (fun y _ _=>rfl) (fun y hy ho => ?_) (fun y hy ho=>hi1.srt y hy ho) (fun y hy t ht=>hi1.wf.to_ y hy t ht) (fun y hy t ht=>(hi1.fin y hy).2.2 t ht) (fun y hy ho=>Nat.le_refl _)
      rw [subIns_args,List.length_map]
      exact hi1.wf.phi y hy ho
     ·obtain ⟨l1, rfl, hi1, l0, h0, h01⟩ := hat c l' hl'
      obtain⟨z,hz,rfl⟩:=List.mem_map.1 hy
      obtain⟨g1,g2⟩:=h.phi c l0 h0 z (h01 z hz) ho
      refine⟨g1,fun p => ?_⟩
      rw [subIns_to,g2 p,hend]
end Go.Proofs.YtamjcafjdioidaaGreat
