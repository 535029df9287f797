/- Texts of the chain, without what is not wanted: GrV, GrE. No condition but sizes. -/
import Derived.Deep.RegionLaw
import Derived.Test.YtamjcafjdioidaaGreatUw03
set_option linter.unusedVariables false
set_option linter.unusedSimpArgs false
set_option maxRecDepth 100000
set_option maxHeartbeats 12800000
namespace Go.Proofs.YtamjcafjdioidaaGreat
def keepS (n:Nat) (acc:List Int) (t:Int):List Int:=if 0≤t∧t<n∧t∉acc then acc ++ [t] else acc
def Qf (n:Nat) («to»:List Int):List Int:=«to».foldl (keepS n) []
def succsB (n:Nat) (x:List Ins):List Int:=match x.getLast? with
 | none => []
 | some i=>if i.op=31∨i.op=32 then Qf n i.to else []
def Yo (bs:List (List Ins)) (b:Int):List Int:=if 0≤b then(match bs[b.toNat]? with|none => []|some x=>succsB bs.length x) else []
theorem succsL_take {n:Nat} {«to»:List Int} {k:Nat} {t:Int} (h:«to»[k]? = some t):Qf n («to».take (k+1))=keepS n (Qf n («to».take k)) t:=by
 rw [Zl h]
 unfold Qf
 rw [List.foldl_append]
 rfl
theorem keepS_no {n:Nat} {acc:List Int} {t:Int} (h:¬(0≤t∧t<n∧t∉acc)):keepS n acc t=acc:=if_neg h
theorem keepS_yes {n:Nat} {acc:List Int} {t:Int} (h:0≤t∧t<n∧t∉acc):keepS n acc t=acc ++ [t]:=if_pos h
structure Ya1 (n : Nat) (l : List Int) : Prop where
 nodup:l.Nodup
 bound:∀t,t∈l→0≤t∧t<n
theorem succ_keep {n:Nat} {acc:List Int} {t:Int} (h:Ya1 n acc):Ya1 n (keepS n acc t):=by
 unfold keepS
 split
 ·rename_i hc
  refine⟨?_,fun x hx => ?_⟩
  ·rw [List.nodup_append]
   exact⟨h.nodup,by simp,fun a ha b hb=>by rw [List.mem_singleton.1 hb];rintro rfl;exact hc.2.2 ha⟩
  ·rcases List.mem_append.1 hx with hx | hx
   ·exact h.bound x hx
   ·rw [List.mem_singleton.1 hx];exact⟨hc.1,hc.2.1⟩
 ·exact h
theorem succ_fold {n : Nat} : ∀ («to» acc : List Int), Ya1 n acc → Ya1 n («to».foldl (keepS n) acc)
 | [],_,h=>h
 | _ :: «to»,_,h=>succ_fold «to» _ (succ_keep h)
theorem succsL_ok (n:Nat) («to»:List Int):Ya1 n (Qf n «to»):=succ_fold «to» [] ⟨List.nodup_nil,fun t h=>by cases h⟩
theorem Yba (bs:List (List Ins)) (b:Int):Ya1 bs.length (Yo bs b):=by
 have h0:Ya1 bs.length []:=⟨List.nodup_nil,fun t h=>by cases h⟩
 unfold Yo
 split
 ·split
  ·exact h0
  ·unfold succsB
   split
   ·exact h0
   ·split
    ·exact succsL_ok _ _
    ·exact h0
 ·exact h0
theorem range_len : ∀ (n : Nat) (l : List Int), l.Nodup → (∀ t, t ∈ l → 0 ≤ t ∧ t < n) → l.length ≤ n
 | 0,l,_,h=>by
  cases l with
  | nil=>exact Nat.le_refl _
  | cons x l=>have:=h x (List.mem_cons_self ..);omega
 | n+1,l,hn,h=>by
  have h1:=range_len n (l.erase (n:Int)) (hn.erase _) (fun t ht=>by
   have h2:=(hn.mem_erase_iff).1 ht
   have h3:=h t h2.2
   have h4:=h2.1
   omega)
  have h5:l.length≤(l.erase (n:Int)).length+1:=by
   rw [List.length_erase]
   split<;>omega
  omega
theorem succ_len {n:Nat} {l:List Int} (h:Ya1 n l):l.length≤n:=range_len n l h.nodup h.bound
theorem fold_len {n : Nat} : ∀ («to» acc : List Int), («to».foldl (keepS n) acc).length ≤ acc.length + «to».length
 | [],_=>Nat.le_refl _
 | t :: «to»,acc=>by
  have h1:=fold_len «to» (keepS n acc t) (n:=n)
  have h2:(keepS n acc t).length≤acc.length+1:=by unfold keepS;split<;>simp
  rw [List.foldl_cons,List.length_cons]
  omega
theorem succsL_len (n:Nat) («to»:List Int):(Qf n «to»).length≤«to».length:=by exact Nat.le_trans (fold_len (n:=n) «to» []) (by simp)
theorem succsL_take_len (n:Nat) («to»:List Int) (k:Nat):(Qf n («to».take k)).length≤«to».length:=Nat.le_trans (succsL_len _ _) (List.length_take_le' _ _)
theorem last_at {α:Type} {x:List α} (h:0<x.length):∃i,x.getLast? = some i∧x[x.length - 1]? = some i:=by
 rw [List.getLast?_eq_getElem?]
 exact⟨_,Jg (by omega),Jg (by omega)⟩
def restSum (st:List (Int×List Int)):Nat:=(st.map fun p=>p.2.length+1).sum
theorem count_set {l:List Bool}:∀ {k:Nat},l[k]? = some false→(l.set k true).count false+1=l.count false:=by
 induction l with
 | nil=>intro k h;cases h
 | cons x l ih =>
  intro k h
  cases k with
  | zero =>
   simp at h
   subst h
   simp
  | succ k =>
   have:=ih (k:=k) (by simpa using h)
   rw [List.set_cons_succ,List.count_cons,List.count_cons]
   omega
def dfs (succ:Int→List Int) (st:List (Int×List Int)) (marked:List Bool) (out:List Int):List Int :=
 match st with
 | []=>out
 | (b, []) :: st=>dfs succ st marked (out ++ [b])
 | (b,t :: ts) :: st =>
  if h:marked[t.toNat]? = some false then dfs succ ((t,succ t) :: (b,ts) :: st) (marked.set t.toNat true) out
  else dfs succ ((b,ts) :: st) marked out
termination_by (marked.count false,restSum st)
decreasing_by
 ·exact Prod.Lex.right _ (by simp [restSum])
 ·exact Prod.Lex.left _ _ (by have:=count_set h;omega)
 ·exact Prod.Lex.right _ (by simp [restSum])
theorem dfs_nil (succ:Int→List Int) (marked:List Bool) (out:List Int):dfs succ [] marked out=out:=by rw [dfs]
theorem dfs_pop (succ:Int→List Int) (b:Int) (st:List (Int×List Int)) (marked:List Bool) (out:List Int):dfs succ ((b, []) :: st) marked out=dfs succ st marked (out ++ [b]):=by rw [dfs]
theorem dfs_push {succ:Int→List Int} {b t:Int} {ts:List Int} {st:List (Int×List Int)} {marked:List Bool} {out:List Int} (h:marked[t.toNat]? = some false):dfs succ ((b,t :: ts) :: st) marked out=dfs succ ((t,succ t) :: (b,ts) :: st) (marked.set t.toNat true) out:=by rw [dfs,dif_pos h]
theorem dfs_skip {succ:Int→List Int} {b t:Int} {ts:List Int} {st:List (Int×List Int)} {marked:List Bool} {out:List Int} (h:¬marked[t.toNat]? = some false):dfs succ ((b,t :: ts) :: st) marked out=dfs succ ((b,ts) :: st) marked out:=by rw [dfs,dif_neg h]
def Q4 (bs:List (List Ins)):List Int:=if bs.length=0 then [] else(dfs (Yo bs) [(0,Yo bs 0)] ((List.replicate bs.length false).set 0 true) []).reverse
def mu (n:Nat) (st:List (Int×List Int)) (marked:List Bool):Nat:=(n+2)*marked.count false+restSum st
theorem mu_pop (n:Nat) (b:Int) (st:List (Int×List Int)) (marked:List Bool):mu n st marked<mu n ((b, []) :: st) marked:=by simp [mu,restSum]
theorem mu_skip (n:Nat) (b t:Int) (ts:List Int) (st:List (Int×List Int)) (marked:List Bool):mu n ((b,ts) :: st) marked<mu n ((b,t :: ts) :: st) marked:=by simp [mu,restSum]
theorem mu_push {n:Nat} {b t:Int} {ts l:List Int} {st:List (Int×List Int)} {marked:List Bool} (h:marked[t.toNat]? = some false) (hl:l.length≤n):mu n ((t,l) :: (b,ts) :: st) (marked.set t.toNat true)<mu n ((b,t :: ts) :: st) marked:=by
 have h1:=count_set h
 simp only [mu,restSum,List.map_cons,List.sum_cons,List.length_cons]
 rw [←h1,Nat.mul_add,Nat.mul_one]
 omega
structure DfsOk (n : Nat) (st : List (Int × List Int)) (marked : List Bool) (out : List Int) : Prop where
 len:marked.length=n
 room:st.length+out.length+marked.count false≤n
 inn:∀p,p∈st→(0≤p.1∧p.1<n)∧∀t,t∈p.2→0≤t∧t<n
 outs:∀t,t∈out→0≤t∧t<n
theorem dfsOk_pop {n:Nat} {b:Int} {st:List (Int×List Int)} {marked:List Bool} {out:List Int} (h:DfsOk n ((b, []) :: st) marked out):DfsOk n st marked (out ++ [b]) :=
 ⟨h.len,by have:=h.room;simp at this⊢;omega,fun p hp=>h.inn p (List.mem_cons_of_mem _ hp),fun t ht=>by
  rcases List.mem_append.1 ht with ht|ht
  ·exact h.outs t ht
  ·rw [List.mem_singleton.1 ht];exact(h.inn _ (List.mem_cons_self ..)).1⟩
theorem dfsOk_skip {n:Nat} {b t:Int} {ts:List Int} {st:List (Int×List Int)} {marked:List Bool} {out:List Int} (h:DfsOk n ((b,t :: ts) :: st) marked out):DfsOk n ((b,ts) :: st) marked out :=
 ⟨h.len,by have:=h.room;simpa using this,fun p hp=>by
  rcases List.mem_cons.1 hp with rfl|hp
  ·have := h.inn _ (List.mem_cons_self ..)
   exact⟨this.1,fun t' ht'=>this.2 t' (List.mem_cons_of_mem _ ht')⟩
  ·exact h.inn p (List.mem_cons_of_mem _ hp),h.outs⟩
theorem dfsOk_push {n : Nat} {b t : Int} {ts l : List Int} {st : List (Int × List Int)} {marked : List Bool} {out : List Int} (h : DfsOk n ((b, t :: ts) :: st) marked out) (hm : marked[t.toNat]? = some false) (hl : ∀ t, t ∈ l → 0 ≤ t ∧ t < n) :
  DfsOk n ((t,l) :: (b,ts) :: st) (marked.set t.toNat true) out:=by
 have h1:=count_set hm
 have h2:=dfsOk_skip h
 refine⟨by rw [List.length_set];exact h.len,by have:=h.room;simp at this⊢;omega,fun p hp => ?_,h.outs⟩
 rcases List.mem_cons.1 hp with rfl|hp
 ·exact⟨(h.inn _ (List.mem_cons_self ..)).2 t (List.mem_cons_self ..),hl⟩
 ·exact h2.inn p hp
theorem dfsOk_start {n:Nat} {l:List Int} (hn:0<n) (hl:∀t,t∈l→0≤t∧t<n):DfsOk n [(0,l)] ((List.replicate n false).set 0 true) []:=by
 have h1:=count_set (l:=List.replicate n false) (k:=0) (by simp [hn])
 refine⟨by simp,by simp at h1⊢;omega,fun p hp => ?_,fun t ht=>by cases ht⟩
 rw [List.mem_singleton.1 hp]
 exact⟨⟨by omega,by simp;omega⟩,hl⟩
inductive Rch (succ : Int → List Int) : Int → Prop
 | start:Rch succ 0
 | step {x t:Int}:Rch succ x→t∈succ x→Rch succ t
def Behind (out:List Int) (x y:Int):Prop:=∃p q,out=p++x :: q∧y∈q
theorem Behind.more {out:List Int} {x y:Int} (h:Behind out x y) (l:List Int):Behind (out++l) x y:=by
 obtain⟨p,q,rfl,hy⟩:=h
 exact⟨p,q++l,by simp,List.mem_append_left _ hy⟩
theorem Behind.last {out:List Int} {x y:Int} (h:x∈out):Behind (out ++ [y]) x y:=by
 obtain⟨p,q,rfl⟩:=List.append_of_mem h
 exact⟨p,q ++ [y],by simp,by simp⟩
def Chain (succ : Int → List Int) : List Int → Prop
 | []=>True
 | [x]=>x=0
 | t :: b :: l=>t∈succ b∧Chain succ (b :: l)
structure Inv (succ : Int → List Int) (n : Nat) (st : List (Int × List Int)) (marked : List Bool) (out : List Int) : Prop where
 ok:DfsOk n st marked out
 mark:∀x:Nat,marked[x]? = some true↔(x:Int)∈st.map Prod.fst++out
 nodup:(st.map Prod.fst++out).Nodup
 closed:∀x,x∈out→∀t,t∈succ x→t∈st.map Prod.fst++out
 partly:∀p,p∈st→∀t,t∈succ p.1→t∈p.2∨t∈st.map Prod.fst++out
 sub:∀p,p∈st→∀t,t∈p.2→t∈succ p.1
 chain:Chain succ (st.map Prod.fst)
 ahead:∀x,x∈out→x≠0→∃y,x∈succ y∧(y∈st.map Prod.fst∨Behind out x y)
 reach:∀x,x∈st.map Prod.fst++out→Rch succ x
 first:st = []→out.getLast? = some 0
theorem Inv.pop_first {succ:Int→List Int} {n:Nat} {b:Int} {marked:List Bool} {out:List Int} (h:Inv succ n [(b, [])] marked out):(out ++ [b]).getLast? = some 0:=by
 have h1:b=0:=h.chain
 simp [h1]
theorem Inv.pop {succ:Int→List Int} {n:Nat} {b:Int} {st:List (Int×List Int)} {marked:List Bool} {out:List Int} (h:Inv succ n ((b, []) :: st) marked out):Inv succ n st marked (out ++ [b]):=by
 have hmem:∀x,x∈st.map Prod.fst++(out ++ [b])↔x∈((b, []) :: st).map Prod.fst++out:=fun x=>by
  simp only [List.map_cons,List.cons_append,List.mem_cons,List.mem_append,List.not_mem_nil,or_false]
  constructor
  ·rintro (h | h | h)
   ·exact .inr (.inl h)
   ·exact .inr (.inr h)
   ·exact .inl h
  ·rintro (h | h | h)
   ·exact .inr (.inr h)
   ·exact .inl h
   ·exact .inr (.inl h)
 refine⟨dfsOk_pop h.ok,fun x=>(h.mark x).trans (hmem x).symm,?_,?_,?_,fun p hp=>h.sub p (List.mem_cons_of_mem _ hp),?_,?_,fun x hx=>h.reach x ((hmem x).1 hx),fun e=>by subst e;exact h.pop_first⟩
 ·have h1 := h.nodup
  rw [List.map_cons,List.cons_append,List.nodup_cons] at h1
  rw [←List.append_assoc,List.nodup_append]
  exact⟨h1.2,by simp,fun x hx y hy=>by rw [List.mem_singleton.1 hy];rintro rfl;exact h1.1 hx⟩
 ·intro x hx t ht
  rw [hmem]
  rcases List.mem_append.1 hx with hx|hx
  ·exact h.closed x hx t ht
  ·rw [List.mem_singleton.1 hx] at ht
   rcases h.partly _ (List.mem_cons_self ..) t ht with h1|h1
   ·cases h1
   ·exact h1
 ·intro p hp t ht
  rw [hmem]
  exact h.partly p (List.mem_cons_of_mem _ hp) t ht
 ·have h1 := h.chain
  cases st with
  | nil=>trivial
  | cons p st=>exact h1.2
 ·intro x hx hx0
  rcases List.mem_append.1 hx with hx|hx
  ·obtain ⟨y, h1, h2⟩ := h.ahead x hx hx0
   rcases h2 with h2|h2
   ·rcases List.mem_cons.1 h2 with h2 | h2
    ·exact⟨y,h1, .inr (by have h2:y=b:=h2;rw [h2];exact Behind.last hx)⟩
    ·exact⟨y,h1, .inl h2⟩
   ·exact⟨y,h1, .inr (h2.more _)⟩
  ·rw [List.mem_singleton.1 hx] at hx0 ⊢
   have h1:=h.chain
   cases st with
   | nil=>exact(hx0 h1).elim
   | cons p st=>exact⟨p.1,h1.1, .inl (by simp)⟩
theorem Inv.skip {succ:Int→List Int} {n:Nat} {b t:Int} {ts:List Int} {st:List (Int×List Int)} {marked:List Bool} {out:List Int} (h:Inv succ n ((b,t :: ts) :: st) marked out) (hm:¬marked[t.toNat]? = some false):Inv succ n ((b,ts) :: st) marked out:=by
 have ht:=(h.ok.inn _ (List.mem_cons_self ..)).2 t (List.mem_cons_self ..)
 have htm:t∈((b,t :: ts) :: st).map Prod.fst++out:=by
  have h1:t.toNat<marked.length:=by rw [h.ok.len];omega
  have h2:=(h.mark t.toNat).1 (by
   rw [Jg h1] at hm⊢
   cases hb:marked[t.toNat] with
   | true=>rfl
   | false=>rw [hb] at hm;exact(hm rfl).elim)
  rwa [Int.toNat_of_nonneg ht.1] at h2
 refine⟨dfsOk_skip h.ok,h.mark,h.nodup,h.closed,fun p hp x hx => ?_,fun p hp x hx => ?_,h.chain,h.ahead,h.reach,fun e=>by cases e⟩
 ·rcases List.mem_cons.1 hp with rfl | hp
  ·rcases h.partly _ (List.mem_cons_self ..) x hx with h1 | h1
   ·rcases List.mem_cons.1 h1 with rfl | h1
    ·exact .inr htm
    ·exact .inl h1
   ·exact .inr h1
  ·exact h.partly p (List.mem_cons_of_mem _ hp) x hx
 ·rcases List.mem_cons.1 hp with rfl | hp
  ·exact h.sub _ (List.mem_cons_self ..) x (List.mem_cons_of_mem _ hx)
  ·exact h.sub p (List.mem_cons_of_mem _ hp) x hx
theorem Inv.push {succ : Int → List Int} {n : Nat} {b t : Int} {ts : List Int} {st : List (Int × List Int)} {marked : List Bool} {out : List Int} (hs : ∀ x, Ya1 n (succ x)) (h : Inv succ n ((b, t :: ts) :: st) marked out) (hm : marked[t.toNat]? = some false) :
  Inv succ n ((t,succ t) :: (b,ts) :: st) (marked.set t.toNat true) out:=by
 have ht:=(h.ok.inn _ (List.mem_cons_self ..)).2 t (List.mem_cons_self ..)
 have hnt:t∉((b,t :: ts) :: st).map Prod.fst++out:=fun hin=>by
  have:=(h.mark t.toNat).2 (by rwa [Int.toNat_of_nonneg ht.1])
  rw [this] at hm
  cases hm
 have hsub:=h.sub _ (List.mem_cons_self ..) t (List.mem_cons_self ..)
 refine⟨dfsOk_push h.ok hm (hs t).bound,fun x => ?_,?_,?_,?_,?_,⟨hsub,h.chain⟩,?_,?_,fun e=>by cases e⟩
 ·have h1 : t.toNat < marked.length := by rw [h.ok.len]; omega
  by_cases hx:t.toNat=x
  ·subst hx
   rw [Jf h1]
   simp [Int.toNat_of_nonneg ht.1]
  ·rw [Je hx, h.mark x]
   simp only [List.map_cons,List.cons_append,List.mem_cons]
   constructor
   ·exact .inr
   ·rintro (h2 | h2)
    ·omega
    ·exact h2
 ·show (t :: (((b, ts) :: st).map Prod.fst ++ out)).Nodup
  exact List.nodup_cons.2 ⟨hnt,h.nodup⟩
 ·exact fun x hx y hy=>List.mem_cons_of_mem _ (h.closed x hx y hy)
 ·intro p hp x hx
  rcases List.mem_cons.1 hp with rfl|hp
  ·exact .inl hx
  rcases List.mem_cons.1 hp with rfl|hp
  ·rcases h.partly _ (List.mem_cons_self ..) x hx with h1 | h1
   ·rcases List.mem_cons.1 h1 with rfl | h1
    ·exact .inr (List.mem_cons_self ..)
    ·exact .inl h1
   ·exact .inr (List.mem_cons_of_mem _ h1)
  ·rcases h.partly p (List.mem_cons_of_mem _ hp) x hx with h1 | h1
   ·exact .inl h1
   ·exact .inr (List.mem_cons_of_mem _ h1)
 ·intro p hp x hx
  rcases List.mem_cons.1 hp with rfl|hp
  ·exact hx
  rcases List.mem_cons.1 hp with rfl|hp
  ·exact h.sub _ (List.mem_cons_self ..) x (List.mem_cons_of_mem _ hx)
  ·exact h.sub p (List.mem_cons_of_mem _ hp) x hx
 ·intro x hx hx0
  obtain⟨y,h1,h2⟩:=h.ahead x hx hx0
  exact⟨y,h1,h2.elim (fun h => .inl (List.mem_cons_of_mem _ h)) .inr⟩
 ·intro x hx
  rcases List.mem_cons.1 (show x∈t :: (((b,t :: ts) :: st).map Prod.fst++out) from hx) with rfl|hx
  ·exact .step (h.reach b (by simp)) hsub
  ·exact h.reach x hx
theorem inv_end {succ:Int→List Int} {n:Nat} (hs:∀x,Ya1 n (succ x)) (st:List (Int×List Int)) (marked:List Bool) (out:List Int):Inv succ n st marked out→∃m',Inv succ n [] m' (dfs succ st marked out):=by
 induction st,marked,out using dfs.induct (succ:=succ) with
 | case1 marked out=>intro h;rw [dfs_nil];exact⟨_,h⟩
 | case2 marked out b st ih=>intro h;rw [dfs_pop];exact ih h.pop
 | case3 marked out b st t ts hm ih=>intro h;rw [dfs_push hm];exact ih (h.push hs hm)
 | case4 marked out b st t ts hm ih=>intro h;rw [dfs_skip hm];exact ih (h.skip hm)
theorem inv_start {succ:Int→List Int} {n:Nat} (hn:0<n) (hs:∀x,Ya1 n (succ x)):Inv succ n [(0,succ 0)] ((List.replicate n false).set 0 true) []:=by
 refine⟨dfsOk_start hn (hs 0).bound,fun x => ?_,by simp,fun x hx=>(by cases hx),fun p hp t ht => ?_,fun p hp t ht => ?_,rfl,fun x hx=>(by cases hx),fun x hx => ?_,fun e=>by cases e⟩
 ·by_cases hx : 0 = x
  ·subst hx
   rw [Jf (by simpa using hn)]
   simp
  ·rw [Je hx, List.getElem?_replicate]
   split
   ·simp;omega
   ·simp;omega
 ·rw [List.mem_singleton.1 hp] at ht⊢;exact .inl ht
 ·rw [List.mem_singleton.1 hp] at ht⊢;exact ht
 ·have : x = 0 := by simpa using hx
  rw [this];exact .start
theorem nodup_rev {l:List Int} (h:l.Nodup):l.reverse.Nodup:=by
 unfold List.Nodup at *
 rw [List.pairwise_reverse]
 exact h.imp fun h=>h.symm
structure OrderOk (n : Nat) (succ : Int → List Int) (o : List Int) : Prop where
 nodup:o.Nodup
 mem:∀x,x∈o↔(0<n∧Rch succ x)
 bound:∀x,x∈o→0≤x∧x<n
 head:0<n→o.head? = some 0
 ahead:∀x,x∈o→x≠0→∃y,x∈succ y∧∃p q,o=p++x :: q∧y∈p
theorem Ybe (bs:List (List Ins)):OrderOk bs.length (Yo bs) (Q4 bs):=by
 unfold Q4
 by_cases hn:bs.length=0
 ·rw [if_pos hn]
  exact⟨List.nodup_nil,fun x=>⟨fun h=>(by cases h),fun h=>by omega⟩,fun x h=>(by cases h),fun h=>by omega,fun x h=>(by cases h)⟩
 ·rw [if_neg hn]
  obtain⟨m',h⟩:=inv_end (Yba bs) _ _ _ (inv_start (n:=bs.length) (by omega) (Yba bs))
  generalize dfs (Yo bs) [(0,Yo bs 0)] ((List.replicate bs.length false).set 0 true) []=R at h
  have h0:(0:Int)∈R:=List.mem_of_getLast? (h.first rfl)
  refine⟨nodup_rev (by have:=h.nodup;simpa using this),fun x=>⟨fun hx=>⟨by omega,h.reach x (by simpa using hx)⟩,fun hx => ?_⟩,fun x hx=>h.ok.outs x (List.mem_reverse.1 hx),fun _=>by rw [List.head?_reverse];exact h.first rfl,fun x hx hx0 => ?_⟩
  ·rw [List.mem_reverse]
   have h1:∀x,Rch (Yo bs) x→x∈R:=fun x hx=>by
    induction hx with
    | start=>exact h0
    | step _ ht ih=>simpa using h.closed _ ih _ ht
   exact h1 x hx.2
  ·obtain ⟨y, h1, h2⟩ := h.ahead x (List.mem_reverse.1 hx) hx0
   rcases h2 with h2|⟨p,q,h2,h3⟩
   ·cases h2
   ·exact⟨y,h1,q.reverse,p.reverse,by rw [h2];simp,List.mem_reverse.2 h3⟩
def Yw (bs:List (List Ins)):List Bool:=(Q4 bs).foldl (fun l b=>l.set b.toNat true) (List.replicate bs.length false)
theorem setAll_len (l : List Bool) : ∀ (o : List Int) (l : List Bool), (o.foldl (fun l b => l.set b.toNat true) l).length = l.length
 | [],_=>rfl
 | b :: o,l=>by rw [List.foldl_cons,setAll_len l o,List.length_set]
theorem setAll_at : ∀ (o : List Int) (l : List Bool) (k : Nat), k < l.length → (∀ x, x ∈ o → 0 ≤ x) → (o.foldl (fun l b => l.set b.toNat true) l)[k]? = some (decide ((k : Int) ∈ o) || l.getD k false)
 | [],l,k,h,_=>by simp [List.getD,h]
 | b :: o,l,k,h,hb=>by
  have hb0:=hb b (List.mem_cons_self ..)
  rw [List.foldl_cons,setAll_at o _ k (by rw [List.length_set];exact h) (fun x hx=>hb x (List.mem_cons_of_mem _ hx))]
  congr 1
  by_cases hk:b.toNat=k
  ·have e : (k : Int) = b := by omega
   subst hk
   simp [List.getD,h,e]
  ·have e : (k : Int) ≠ b := by omega
   simp [List.getD,Je hk,e]
theorem Qj (bs:List (List Ins)):(Yw bs).length=bs.length:=by unfold Yw;rw [setAll_len []];simp
theorem reach_at (bs:List (List Ins)) (k:Nat) (h:k<bs.length):(Yw bs)[k]? = some (decide ((k:Int)∈Q4 bs)):=by
 unfold Yw
 rw [setAll_at _ _ _ (by simpa using h) (fun x hx=>((Ybe bs).bound x hx).1)]
 simp [List.getD,h]
theorem order_len (bs:List (List Ins)):(Q4 bs).length≤bs.length:=range_len _ _ (Ybe bs).nodup (Ybe bs).bound
inductive RchW (sc : Int → List Int) (gone : Int) : Int → Prop
 | start:gone≠0→RchW sc gone 0
 | step {x t:Int}:RchW sc gone x→t∈sc x→t≠gone→RchW sc gone t
theorem rchW_all {sc:Int→List Int} {n:Nat} (hs:∀b,Ya1 n (sc b)) (x:Int):RchW sc (-1) x↔Rch sc x:=by
 constructor
 ·intro h
  induction h with
  | start=>exact .start
  | step _ ht _ ih=>exact .step ih ht
 ·intro h
  induction h with
  | start=>exact .start (by decide)
  | step _ ht ih=>exact .step ih ht (by have:=((hs _).bound _ ht).1;omega)
def ClosedAt (sc:Int→List Int) (gone:Int) (l:List Bool) (b i:Nat):Prop:=∀t:Nat,(t:Int)∈(sc b).take i→(t:Int)≠gone→l[t]? = some true
structure WInv (sc : Int → List Int) (gone : Int) (n : Nat) (l0 l : List Bool) (more : Bool) (b : Nat) : Prop where
 len:l.length=n
 zero:l[0]? = some true
 sound:∀k:Nat,l[k]? = some true→RchW sc gone k
 same:more=false→l=l0
 le:l.count false≤l0.count false
 less:more=true→l.count false<l0.count false
 closed:more=false→∀b':Nat,b'<b→l[b']? = some true→ClosedAt sc gone l b' (sc b').length
structure WInvI (sc : Int → List Int) (gone : Int) (n : Nat) (l0 l : List Bool) (more : Bool) (b i : Nat) : Prop where
 inv:WInv sc gone n l0 l more b
 here:more=false→ClosedAt sc gone l b i
structure WOut (sc : Int → List Int) (gone : Int) (n : Nat) (l : List Bool) (more : Bool) : Prop where
 len:l.length=n
 zero:l[0]? = some true
 sound:∀k:Nat,l[k]? = some true→RchW sc gone k
 closed:more=false→∀b':Nat,b'<n→l[b']? = some true→ClosedAt sc gone l b' (sc b').length
section
variable {sc:Int→List Int} {gone:Int} {n:Nat} {l0 l:List Bool} {more:Bool} {b i:Nat}
theorem wout_start (hn:0<n) (hg:gone≠0):WOut sc gone n ((List.replicate n false).set 0 true) true:=by
 refine⟨by simp,Jf (by simpa using hn),fun k hk => ?_,fun h=>by cases h⟩
 by_cases h0:0=k
 ·subst h0;exact .start hg
 ·rw [Je h0, List.getElem?_replicate] at hk
  split at hk<;>cases hk
theorem winv_start (h:WOut sc gone n l true):WInv sc gone n l l false 0 :=
 ⟨h.len,h.zero,h.sound,fun _=>rfl,Nat.le_refl _,(fun h=>by cases h),fun _ b' hb=>by omega⟩
theorem winv_in (h:WInv sc gone n l0 l more b):WInvI sc gone n l0 l more b 0 :=
 ⟨h,fun _ t ht=>by rw [List.take_zero] at ht;cases ht⟩
theorem wI_skip {t:Nat} (h:WInvI sc gone n l0 l more b i) (ht:(sc b)[i]? = some (t:Int)) (hk:(t:Int)=gone∨l[t]? = some true):WInvI sc gone n l0 l more b (i+1) :=
 ⟨h.inv,fun hm t' ht' hg=>by
  rw [List.take_add_one,ht] at ht'
  rcases List.mem_append.1 ht' with h1|h1
  ·exact h.here hm t' h1 hg
  ·have e : (t' : Int) = t := by simpa using h1
   have e':t'=t:=by omega
   subst e'
   exact hk.resolve_left hg⟩
theorem wI_mark {t:Nat} (h:WInvI sc gone n l0 l more b i) (hb:l[b]? = some true) (ht:(sc b)[i]? = some (t:Int)) (hg:(t:Int)≠gone) (hm:l[t]? = some false):WInvI sc gone n l0 (l.set t true) true b (i+1):=by
 have hc:=count_set hm
 have h1:=h.inv.le
 refine⟨⟨by rw [List.length_set];exact h.inv.len,?_,fun k hk => ?_,(fun h=>by cases h),by omega,fun _=>by omega,fun h=>by cases h⟩,fun h=>by cases h⟩
 ·by_cases h0 : t = 0
  ·subst h0;exact Jf (Js.1 hm).1
  ·rw [Je h0];exact h.inv.zero
 ·by_cases h0 : t = k
  ·subst h0;exact .step (h.inv.sound b hb) (Jm ht) hg
  ·rw [Je h0] at hk;exact h.inv.sound k hk
theorem wI_end (h:WInvI sc gone n l0 l more b (sc b).length):WInv sc gone n l0 l more (b+1) :=
 ⟨h.inv.len,h.inv.zero,h.inv.sound,h.inv.same,h.inv.le,h.inv.less,fun hm b' hb hl=>by
  by_cases e:b'=b
  ·subst e;exact h.here hm
  ·exact h.inv.closed hm b' (by omega) hl⟩
theorem winv_dead (h:WInv sc gone n l0 l more b) (hb:l[b]? = some false):WInv sc gone n l0 l more (b+1) :=
 ⟨h.len,h.zero,h.sound,h.same,h.le,h.less,fun hm b' hb' hl=>by
  by_cases e:b'=b
  ·subst e;rw [hb] at hl;cases hl
  ·exact h.closed hm b' (by omega) hl⟩
theorem winv_out (h:WInv sc gone n l0 l more n):WOut sc gone n l more:=⟨h.len,h.zero,h.sound,h.closed⟩
theorem wout_end (hs:∀b,Ya1 n (sc b)) (h:WOut sc gone n l false) (k:Nat):l[k]? = some true↔(k<n∧RchW sc gone k):=by
 have h1:∀x,RchW sc gone x→l[x.toNat]? = some true:=fun x hx=>by
  induction hx with
  | start=>exact h.zero
  | @step x t hx ht hg ih =>
   have hx0:0≤x∧x.toNat<n:=by
    cases hx with
    | start=>exact⟨by omega,by have:=(Js.1 ih).1;have:=h.len;omega⟩
    | step _ h1 _=>have:=(hs _).bound _ h1;omega
   have ht0:=(hs x).bound t ht
   have h2:=h.closed rfl x.toNat hx0.2 ih t.toNat
   rw [Int.toNat_of_nonneg hx0.1,Int.toNat_of_nonneg ht0.1,List.take_length] at h2
   exact h2 ht hg
 exact⟨fun hk=>⟨by have:=(Js.1 hk).1;rw [h.len] at this;exact this,h.sound k hk⟩,fun hk=>by have:=h1 _ hk.2;rwa [Int.toNat_natCast] at this⟩
end
structure WOk (sc : Int → List Int) (gone : Int) (n : Nat) (l : List Bool) : Prop where
 len:l.length=n
 iff:∀k:Nat,l[k]? = some true↔(k<n∧RchW sc gone k)
theorem wok_unique {sc:Int→List Int} {gone:Int} {n:Nat} {l l':List Bool} (h:WOk sc gone n l) (h':WOk sc gone n l'):l=l':=by
 refine List.ext_getElem? fun k => ?_
 have h1:=h.iff k
 have h2:=h'.iff k
 by_cases hk:k<n
 ·obtain ⟨x, e1⟩ : ∃ x, l[k]? = some x := ⟨_, Jg (by rw [h.len]; exact hk)⟩
  obtain⟨y,e2⟩:∃y,l'[k]? = some y:=⟨_,Jg (by rw [h'.len];exact hk)⟩
  rw [e1] at h1
  rw [e2] at h2
  rw [e1,e2]
  have h3:=h1.trans h2.symm
  cases x<;>cases y<;>simp_all
 ·rw [List.getElem?_eq_none (by rw [h.len];omega),List.getElem?_eq_none (by rw [h'.len];omega)]
theorem wok_reach (bs:List (List Ins)):WOk (Yo bs) (-1) bs.length (Yw bs):=by
 refine⟨Qj bs,fun k => ?_⟩
 by_cases hk:k<bs.length
 ·rw [reach_at bs k hk, rchW_all (Yba bs)]
  simp only [Option.some.injEq,decide_eq_true_eq]
  rw [(Ybe bs).mem]
  exact⟨fun h=>⟨hk,h.2⟩,fun h=>⟨by omega,h.2⟩⟩
 ·rw [List.getElem?_eq_none (by rw [Qj]; omega)]
  exact⟨(fun h=>by cases h),fun h=>absurd h.1 hk⟩
theorem wok_none {sc:Int→List Int} {gone:Int} {n:Nat} (h:n=0∨gone=0):WOk sc gone n (List.replicate n false):=by
 refine⟨by simp,fun k=>⟨fun hk => ?_,fun hk => ?_⟩⟩
 ·rw [List.getElem?_replicate] at hk
  split at hk<;>cases hk
 ·rcases h with h | h
  ·omega
  ·exfalso
   have:∀x,RchW sc gone x→False:=fun x hx=>by
    induction hx with
    | start h0=>exact h0 h
    | step _ _ _ ih=>exact ih
   exact this _ hk.2
open Go.RowKit
def IndexPost (l:List Int) (t:Int) (w:World) (e:Ending) (w':World):Prop:=∃r:Int,e = .returned (.int .i64 r)∧(0≤r↔t∈l)∧Below w.heap.size w w'
theorem index_any (u : Value) (l : List Int) (t : Int) (w : World) (B : Nat) (hB : B ≤ w.heap.size) (ha : Z4.rep w B [u] l) :
  Calls Tryz.prog 99 #[u, .int .i64 t] w (IndexPost l t w):=by
 obtain⟨A1,c1,h1,hm1,ga⟩:=Rp.slice1_open (Z4.later ha (Below.refl _ _) hB)
 cases h1
 replace ga:=hide ga
 have hself:=Below.refl w.heap.size w
 go_enter Tryz.func99,Tryz.ntmps99
 go_wp2
 go_loopw [8] (fun i wr=>∃k:Nat,k≤l.length∧i = .int .i64 k∧Hid (t∉l.take k)∧Below w.heap.size w wr) (fun i _=>l.length - (intOf i).toNat)
 case atStart=>exact⟨0,Nat.zero_le _,rfl,hide (by simp),hself⟩
 case round =>
  obtain⟨k,hk,rfl,hall,hbel⟩:=hrel
  by_cases hlt:k<l.length
  ·obtain ⟨b1, o1, rfl, he1⟩ := ga.out (by omega)
   obtain⟨x,hx⟩:=Yf hlt
   obtain⟨_,⟨hr1,_⟩,p0⟩:=he1 k x hx.out
   cases hr1
   clear he1
   cases hxy:(t==x) with
   | true =>
    have hin:Hid (t∈l):=hide (by rw [eq_of_beq hxy];exact Jm hx.out)
    go_wp2
    go_ret
    exact⟨_,rfl,⟨fun _=>hin.out,fun _=>by omega⟩,hbel⟩
   | false =>
    have hin:Hid (t∉l.take (k+1)):=hide (by
     rw [Zl hx.out]
     intro h
     rcases List.mem_append.1 h with h|h
     ·exact hall.out h
     ·rw [List.mem_singleton.1 h] at hxy;simp at hxy)
    go_wp2
    go_roundw
    case rel=>exact⟨k+1,hlt,by go_num,hin,hbel⟩
    case measure=>simp [intOf];omega
  ·go_wp2
   go_ret
   exact⟨_,rfl,⟨fun h=>by omega,fun h=>(hall.out (by rwa [List.take_of_length_le (by omega)])).elim⟩,hbel⟩
theorem contains_any (u : Value) (l : List Int) (t : Int) (w : World) (B : Nat) (hB : B ≤ w.heap.size) (ha : Z4.rep w B [u] l) :
  Calls Tryz.prog 78 #[u, .int .i64 t] w fun e w'=>e = .returned (.bool (decide (t∈l)))∧Below w.heap.size w w':=by
 go_enter Tryz.func78,Tryz.ntmps78
 go_wp2_with fail
 refine(index_any u l t w B hB ha).mono ?_
 rintro e w1 ⟨r,rfl,hr,hb⟩
 replace hr:=hide hr
 go_wp2
 go_ret
 exact⟨Z6 (by rw [Bool.eq_iff_iff];simp [←hr.out]),hb⟩
theorem OwnI.snoc {w':World} {B:Nat} {v':Value} {l:List Int} {t:Int} (hl:∀x,x∈l→I64 x) (ht:I64 t) (h:w'.ownsRow B 3 1 v' (l.length+1) (l.map (fun z=>Value.int .i64 z) ++ [.int .i64 t])):OwnI w' B v' (l ++ [t]) :=
 ⟨by simpa using h,fun x hx=>by
  rcases List.mem_append.1 hx with hx|hx
  ·exact hl x hx
  ·rw [List.mem_singleton.1 hx];exact ht⟩
def SuccPost (l:List Int) (w:World) (e:Ending) (w':World):Prop:=∃v,e = .returned v∧OwnI w' w.heap.size v l∧Below w.heap.size w w'
theorem succs_any (f : Fun) (b : Int) (c1 c2 : Value) (w : World) (B : Nat) (hB : B ≤ w.heap.size) (hf : RFun.rep w B [.string f.name, c1, .int .i64 f.ret, c2] f) (hs : Zo f) :
  Calls Tryz.prog 76 #[f.v c1 c2, .int .i64 b] w (SuccPost (Yo f.blocks b) w):=by
 obtain⟨hp,hb⟩:=Yk (RFun.later hf (Below.refl _ _) hB)
 obtain⟨A1,k1,h1, -, -⟩:=Rp.slice1_open hp
 obtain⟨A2,k2,h2,hm2,gb⟩:=Rp.slice1_open hb
 cases h1;cases h2
 replace gb:=hide gb
 clear hp hb hf
 obtain⟨i0,hi0,hz0,hz1,hz2⟩:=Yh Z5
 refine hd4 hi0 hz0 hz1 hz2 ?_;clear hi0 hz0 hz1 hz2;intro hi0 hz0 hz1 hz2
 obtain⟨n2,hn2⟩:∃n,Hid (n=f.blocks.length):=⟨_,hide rfl⟩
 rw [←hn2.out] at hm2⊢
 obtain⟨W,hW,hwW,hWs,hx⟩:=Y6 w #[.string f.name, .slice A1 f.params.length k1, .int .i64 f.ret, .slice A2 n2 k2] 32
 have x3:=hx 3 _ rfl
 clear hx
 have hws:w.heap.size≤W.heap.size:=by omega
 replace hWs:=hide hWs
 have hself:=Below.refl W.heap.size W
 replace hs:=hide hs
 by_cases h0:0≤b
 case neg =>
  have hlt0:b<0:=by omega
  have hsp:Hid (Yo f.blocks b = []):=hide (by unfold Yo;rw [if_neg h0])
  go_enter Tryz.func76,Tryz.ntmps76
  go_wp2
  go_ret
  exact⟨_,rfl,by rw [hsp.out];exact OwnI.nil_,hwW⟩
 obtain⟨k,rfl⟩:=Int.eq_ofNat_of_zero_le h0
 by_cases hlt:k<n2
 case neg =>
  have hsp:Hid (Yo f.blocks k = []):=hide (by unfold Yo;rw [if_pos h0,Int.toNat_natCast,List.getElem?_eq_none (by rw [←hn2.out];omega)])
  have hk1:¬(k:Int)<0:=by omega
  have hk2:(k:Int) ≥ (n2:Int):=by omega
  go_enter Tryz.func76,Tryz.ntmps76
  go_wp2
  go_ret
  exact⟨_,rfl,by rw [hsp.out];exact OwnI.nil_,hwW⟩
 obtain⟨x,hx⟩:=Yf (l:=f.blocks) (k:=k) (by rw [←hn2.out];exact hlt)
 obtain⟨b1,o1,rfl,he1⟩:=gb.out (by rw [←hn2.out];omega)
 obtain⟨d1,hr1,hd1⟩:=he1 k x hx.out
 obtain⟨A3,c3,h3,hm3,ga3⟩:=Rp.slice_open hr1
 cases h3
 replace ga3:=hide ga3
 have hd1':∀w',Below W.heap.size W w'→w'.cell? ⟨b1,o1+k,none⟩=some (.slice A3 x.length c3):=fun w' h=>hd1 w' (hwW.trans (h.mono hws))
 clear hd1 hr1 he1
 obtain⟨nx,hnx⟩:∃n,Hid (n=x.length):=⟨_,hide rfl⟩
 rw [←hnx.out] at hm3 hd1'
 have hk1:¬(k:Int)<0:=by omega
 have hk2:¬(k:Int) ≥ (n2:Int):=by omega
 by_cases hx0:nx=0
 ·have hsp : Hid (Yo f.blocks k = []) := hide (by unfold Yo; rw [if_pos h0, Int.toNat_natCast, hx.out]; show succsB _ x = []; rw [List.eq_nil_of_length_eq_zero (hnx.out.symm.trans hx0)]; rfl)
  subst hx0
  go_enter Tryz.func76,Tryz.ntmps76
  go_wp2
  go_ret
  exact⟨_,rfl,by rw [hsp.out];exact OwnI.nil_,hwW⟩
 obtain⟨nl,rfl⟩:∃m,nx=m+1:=⟨nx - 1,by omega⟩
 obtain⟨ins,hin1,hin2⟩:=last_at (x:=x) (by rw [←hnx.out];omega)
 replace hin1:=hide hin1
 rw [←hnx.out,Nat.add_sub_cancel] at hin2
 replace hin2:=hide hin2
 obtain⟨b3,o3,rfl,he3⟩:=ga3.out (by rw [←hnx.out];omega)
 obtain⟨_,_,⟨a1,a2,rfl,ha,hto,hwf⟩,hc⟩:=he3 nl ins hin2.out
 obtain⟨A5,k5,h5, -, -⟩:=Rp.slice_open ha
 obtain⟨A6,k6,h6,hm6,gt⟩:=Rp.slice1_open hto
 cases h5;cases h6
 replace gt:=hide gt
 obtain⟨q0,q1,q2,q3,q4,q5,q6⟩:=(hc.later hwW hws).seven
 have hsm:ins.to.length≤2000000:=((hs.out.code x (Jm hx.out)).2 ins (Jm hin2.out)).2
 have hi64:Hid (∀y,y∈ins.to→I64 y):=hide (ints_src (Z4.later hto (Below.refl _ _) (Nat.le_refl _))).2.2.1
 clear he3 hc ha hto hwf
 have hkind:Hid (Yo f.blocks k=if ins.op=31∨ins.op=32 then Qf n2 ins.to else []):=hide (by unfold Yo;rw [if_pos h0,Int.toNat_natCast,hx.out];show succsB _ x=_;unfold succsB;rw [hin1.out,←hn2.out])
 have e0:((nl+1:Nat):Int) - 1=(nl:Int):=by omega
 have e1:(((nl+1:Nat):Int)==0)=false:=by rw [beq_eq_false_iff_ne];omega
 obtain⟨X,hX,hWX,hXs,hz⟩:=Y6 W #[.int .i64 ins.op, .int .i64 ins.reg, .int .i64 ins.ty, .int .i64 ins.num, .int .i64 ins.flags, .slice A5 ins.args.length k5, .slice A6 ins.to.length k6] 44
 have z0:∀w',Below X.heap.size X w'→w'.cell? ⟨W.heap.size,0,none⟩=some (.int .i64 ins.op):=hz 0 _ rfl
 have z6:∀w',Below X.heap.size X w'→w'.cell? ⟨W.heap.size,6,none⟩=some (.slice A6 ins.to.length k6):=hz 6 _ rfl
 clear hz
 have hWXs:W.heap.size≤X.heap.size:=by omega
 have x3X:∀w',Below X.heap.size X w'→w'.cell? ⟨w.heap.size,3,none⟩=some (.slice (some ⟨b1,o1,none⟩) n2 k2):=fun w' h=>x3 w' (hWX.trans (h.mono hWXs))
 have hwX:=hide (hwW.trans (hWX.mono hws))
 have hselfX:=Below.refl X.heap.size X
 refine hd2 hXs hWX ?_;clear hXs hWX;intro hXs hWX
 by_cases hbr:ins.op=31∨ins.op=32
 case neg =>
  have hsp:Hid (Yo f.blocks k = []):=hide (by rw [hkind.out,if_neg hbr])
  replace hbr:=hide hbr
  cases hen:Yce ins.op with
  | false =>
   have hcE:Hid (∀w,Calls Tryz.prog 111 #[.int .i64 ins.op] w fun e w'=>e = .returned (.bool false)∧w=w'):=hide (fun w=>by have:=ends_any ins.op w;rwa [hen] at this)
   replace hen:=hide hen
   go_enter Tryz.func76,Tryz.ntmps76
   go_upto_region 5 with(fail)
   clear hX hW x3 hself q0 q1 q2 q3 q4 q5 q6 hd1'
   go_wp2_with (go_at_call 111;refine(hcE.out _).mono ?_;rintro e w' ⟨rfl,rfl⟩)
   go_ret
   exact⟨_,rfl,by rw [hsp.out];exact OwnI.nil_,hwX.out⟩
  | true =>
   have hcE:Hid (∀w,Calls Tryz.prog 111 #[.int .i64 ins.op] w fun e w'=>e = .returned (.bool true)∧w=w'):=hide (fun w=>by have:=ends_any ins.op w;rwa [hen] at this)
   have hgt:ins.op > 32:=by simp [Yce] at hen;have:=hbr.out;omega
   replace hen:=hide hen
   go_enter Tryz.func76,Tryz.ntmps76
   go_upto_region 5 with(fail)
   clear hX hW x3 hself q0 q1 q2 q3 q4 q5 q6 hd1'
   go_wp2_with (go_at_call 111;refine(hcE.out _).mono ?_;rintro e w' ⟨rfl,rfl⟩)
   go_ret
   exact⟨_,rfl,by rw [hsp.out];exact OwnI.nil_,hwX.out⟩
 have hsp:Hid (Yo f.blocks k=Qf n2 ins.to):=hide (by rw [hkind.out,if_pos hbr])
 have hen:Yce ins.op=true:=by simp [Yce];omega
 have hgt:¬ins.op > 32:=by omega
 have hcE:Hid (∀w,Calls Tryz.prog 111 #[.int .i64 ins.op] w fun e w'=>e = .returned (.bool true)∧w=w'):=hide (fun w=>by have:=ends_any ins.op w;rwa [hen] at this)
 refine hd2 hen hbr ?_;clear hen hbr;intro hen hbr
 go_enter Tryz.func76,Tryz.ntmps76
 go_upto_region 5 with(fail)
 clear hX hW x3 hself q0 q1 q2 q3 q4 q5 q6 hd1'
 go_wp2_with (go_at_call 111;refine(hcE.out _).mono ?_;rintro e w' ⟨rfl,rfl⟩)
 obtain⟨nt,hnt⟩:∃n,Hid (n=ins.to.length):=⟨_,hide rfl⟩
 rw [←hnt.out] at z6 hm6 hsm⊢
 go_loopw [7,53] (fun l i wr=>∃j:Nat,j≤nt∧i = .int .i64 j∧Hid (OwnI wr X.heap.size l (Qf n2 (ins.to.take j)))∧Below X.heap.size X wr) (fun _ i _=>nt - (intOf i).toNat)
 case atStart=>exact⟨0,Nat.zero_le _,rfl,hide OwnI.nil_,hselfX⟩
 case round =>
  obtain⟨j,hj,rfl,hl,hbel⟩:=hrel
  by_cases hlt2:j<nt
  ·obtain ⟨bt, ot, rfl, het⟩ := gt.out (by rw [← hnt.out]; omega)
   obtain⟨t,ht⟩:=Yf (l:=ins.to) (k:=j) (by rw [←hnt.out];exact hlt2)
   obtain⟨_,⟨hrt,hti⟩,p0⟩:=het j t ht.out
   cases hrt
   replace p0:∀w',Below X.heap.size X w'→w'.cell? ⟨bt,ot+j,none⟩=some (.int .i64 t):=fun w' h=>p0 w' (hwX.out.trans (h.mono hwX.out.size))
   clear het
   have hstep:Hid (Qf n2 (ins.to.take (j+1))=keepS n2 (Qf n2 (ins.to.take j)) t):=hide (succsL_take ht.out)
   obtain⟨ac,hac⟩:∃ac,Hid (Qf n2 (ins.to.take j)=ac):=⟨_,hide rfl⟩
   have hlen:ac.length≤2000000:=by rw [←hac.out];exact Nat.le_trans (succsL_take_len _ _ _) (by rw [←hnt.out];exact hsm)
   rw [hac.out] at hl hstep
   by_cases hin:0≤t∧t<n2
   ·obtain ⟨ht1, ht2⟩ := hin
    have ht0:t ≥ 0:=ht1
    obtain⟨g7,hg7,hf7⟩:∃A C,u7 = .slice A ac.length C:=Yd hl.out.row
    subst hf7
    have hbs:=hbel.size
    have hselfr:=Below.refl wr.heap.size wr
    have hcC:Hid (∀w',Below wr.heap.size wr w'→Calls Tryz.prog 78 #[.slice g7 ac.length hg7, .int .i64 t] w' fun e w''=>e = .returned (.bool (decide (t∈ac)))∧Below w'.heap.size w' w''):=hide (fun w' h=>contains_any _ ac t w' w'.heap.size (Nat.le_refl _) (hl.out.kept fun k _ hk=>h.block k hk).rep)
    replace p0:∀w',Below wr.heap.size wr w'→w'.cell? ⟨bt,ot+j,none⟩=some (.int .i64 t):=fun w' h=>p0 w' (hbel.trans (h.mono hbs))
    have x3r:∀w',Below wr.heap.size wr w'→w'.cell? ⟨w.heap.size,3,none⟩=some (.slice (some ⟨b1,o1,none⟩) n2 k2):=fun w' h=>x3X w' (hbel.trans (h.mono hbs))
    cases hmem:decide (t∈ac) with
    | true =>
     have hsame:Hid (Qf n2 (ins.to.take (j+1))=ac):=hide (by rw [hstep.out,keepS_no (fun h=>h.2.2 (of_decide_eq_true hmem))])
     rw [hmem] at hcC
     replace hmem:=hide hmem
     go_wp2_with (first|(go_at_call 78;refine(hcC.out _ hselfr).mono ?_;rintro e w5 ⟨rfl,hb5⟩))
     go_roundw
     case rel=>exact⟨j+1,hlt2,by go_num,hide (by rw [hsame.out];exact hl.out.kept fun k _ hk=>hb5.block k hk),hbel.trans (hb5.mono hbs)⟩
     case measure=>simp [intOf];omega
    | false =>
     have hsame:Hid (Qf n2 (ins.to.take (j+1))=ac ++ [t]):=hide (by rw [hstep.out,keepS_yes ⟨ht1,ht2,of_decide_eq_false hmem⟩])
     rw [hmem] at hcC
     replace hmem:=hide hmem
     have hti2:=hide hti
     go_wp2_with (first
      | (go_at_call 78
         refine(hcC.out _ hselfr).mono ?_
         rintro e w5 ⟨rfl,hb5⟩
         have hl5:=hide (hl.out.kept fun k _ hk=>hb5.block k hk)
         have hbel5:=hbel.trans (hb5.mono hbs)
         have hbs5:=hbel5.size)
      | (at_builtin
         refine wpList_append_own _ rfl (.tmp 72) (.tmp 74) _ rfl X.heap.size 3 i0 _ 1 8 Tryz.underlying29 hi0.out hz0.out hz1.out hz2.out rfl (by omega) (.slice g7 ac.length hg7) _ _ rfl (hl5.out.row.alloc _) ⟨w5.heap.size,0,none⟩ 1 1 [.int .i64 t] rfl rfl ?c1 ?c2 ?c3 ?c4 ?c5 ?_
         case c1=>exact World.news_of_block (cs := #[.int .i64 t]) (t := 3) (fr:=(0,0)) (heap_alloc_new w5 _)
         case c2=>simp [Value.oneCell']
         case c3=>unfold maxLen;omega
         case c4=>omega
         case c5=>first|(simp;omega)|simp|omega
         intro v1 w1 hown1 hg1 _
         have hbw1:Below X.heap.size X w1:=(hbel5.alloc hbs5 _).grown hg1 (by simp;omega) (fun k hk=>(Ya hl5.out.row hk).1)
         have hL:=hide (OwnI.snoc hl5.out.ok hti2.out hown1)
         replace hown1:=hide hown1
         replace hg1:=hide hg1))
     go_roundw
     case rel=>exact⟨j+1,hlt2,by go_num,hide (by rw [hsame.out];exact hL.out),hbw1⟩
     case measure=>simp [intOf];omega
   ·have hsame : Hid (Qf n2 (ins.to.take (j + 1)) = ac) := hide (by rw [hstep.out, keepS_no (fun h => hin ⟨h.1, h.2.1⟩)])
    by_cases ht0:t ≥ 0
    ·have ht1 : ¬ t < (n2 : Int) := by omega
     go_wp2
     go_roundw
     case rel=>exact⟨j+1,hlt2,by go_num,hide (by rw [hsame.out];exact hl.out),hbel⟩
     case measure=>simp [intOf];omega
    ·go_wp2
     go_roundw
     case rel=>exact⟨j+1,hlt2,by go_num,hide (by rw [hsame.out];exact hl.out),hbel⟩
     case measure=>simp [intOf];omega
  ·obtain rfl : j = nt := by omega
   go_wp2
   go_ret
   exact⟨_,rfl,by rw [hsp.out];have:=hl.out;rw [List.take_of_length_le (by rw [hnt.out];exact Nat.le_refl _)] at this;exact this.mono hwX.out.size,hwX.out.trans (hbel.mono hwX.out.size)⟩
structure RevAt (l : List Int) (k : Nat) (ys : List Int) : Prop where
 len:ys.length=l.length
 val:∀p,p<l.length→ys[p]? = if k≤p∧p+k<l.length then l[p]? else l[l.length - 1 - p]?
theorem revAt_zero (l:List Int):RevAt l 0 l:=⟨rfl,fun p hp=>by rw [if_pos ⟨Nat.zero_le _,by omega⟩]⟩
theorem revAt_end {l ys:List Int} {k:Nat} (h:RevAt l k ys) (hk:l.length≤2*k+1):ys=l.reverse:=by
 apply List.ext_getElem?
 intro p
 rcases Nat.lt_or_ge p l.length with hp|hp
 ·rw [h.val p hp, List.getElem?_reverse hp]
  split
  ·rename_i hc
   rw [show l.length - 1 - p=p by omega]
  ·rfl
 ·rw [List.getElem?_eq_none (by rw [h.len];exact hp),List.getElem?_eq_none (by rw [List.length_reverse];exact hp)]
theorem revAt_step {l ys:List Int} {k j:Nat} {x y:Int} (h:RevAt l k ys) (hj:j+k+1=l.length) (hkj:k<j) (hx:ys[k]? = some x) (hy:ys[j]? = some y):RevAt l (k+1) ((ys.set k y).set j x):=by
 have hx':=h.val k (by omega)
 rw [if_pos ⟨Nat.le_refl _,by omega⟩,hx] at hx'
 have hy':=h.val j (by omega)
 rw [if_pos ⟨by omega,by omega⟩,hy] at hy'
 refine⟨by rw [List.length_set,List.length_set,h.len],fun p hp => ?_⟩
 rw [List.getElem?_set,List.getElem?_set]
 by_cases h1:j=p
 ·subst h1
  rw [if_pos rfl,if_pos (by rw [List.length_set,h.len];exact hp),if_neg (by omega),show l.length - 1 - j=k by omega,hx']
 ·rw [if_neg h1]
  by_cases h2:k=p
  ·subst h2
   rw [if_pos rfl,if_pos (by rw [h.len];exact hp),if_neg (by omega),show l.length - 1 - k=j by omega,hy']
  ·rw [if_neg h2, h.val p hp]
   by_cases h3:k≤p∧p+k<l.length
   ·rw [if_pos h3,if_pos (by omega)]
   ·rw [if_neg h3,if_neg (by omega)]
theorem map_set (l:List Int) (k:Nat) (x:Int):(l.map fun z=>Value.int .i64 z).set k (.int .i64 x)=(l.set k x).map fun z=>Value.int .i64 z:=by simp [List.map_set]
def RevPost (v:Value) (l:List Int) (B:Nat) (w:World) (e:Ending) (w':World):Prop:=e = .returned (.tuple #[])∧OwnI w' B v l.reverse∧Only (fun k=>v.ownBlock=some k) w.heap.size w w'
theorem reverse_any (v : Value) (l : List Int) (w : World) (B : Nat) (hv : OwnI w B v l) (hs : l.length ≤ 2000000) :
  Calls Tryz.prog 124 #[v] w (RevPost v l B w):=by
 obtain⟨A,C,rfl⟩:=Yd hv.row
 obtain⟨n,hn⟩:=Jn (l.length)
 rw [←hn.out] at hs⊢
 rw [←hn.out] at hv
 have hok:=hide hv.ok
 have hrow0:=hide hv.row
 rw [←hn.out] at hrow0
 clear hv
 go_enter Tryz.func124,Tryz.ntmps124
 go_wp2
 go_loopw [2,3] (fun a b wr=>∃k:Nat,2*k≤n+1∧a = .int .i64 k∧b = .int .i64 ((n:Int) - 1 - k)∧Hid (∃ys,RevAt l k ys∧wr.ownsRow B 3 1 (.slice A n C) n (ys.map fun z=>Value.int .i64 z))∧Only (fun k=>Value.ownBlock (.slice A n C)=some k) w.heap.size w wr) (fun a _ _=>n - (intOf a).toNat)
 case atStart=>exact⟨0,by omega,rfl,by go_num,hide ⟨l,revAt_zero l,hrow0.out⟩,Only.refl _ _ _⟩
 case round =>
  obtain⟨k,hk,rfl,rfl,hrow,hbel⟩:=hrel
  obtain⟨ys,hrev,hx⟩:=hrow.out
  by_cases hlt:2*k+1<n
  ·obtain⟨g,rfl⟩:∃g,A=some ⟨g,0,none⟩:=by
    rcases hx.2 with⟨h1,h2⟩|⟨gp,cp,cur,h1,h2,_⟩
    ·omega
    ·cases h1;exact⟨gp,rfl⟩
   obtain⟨j,hj⟩:∃j:Nat,j+k+1=n:=⟨n - 1 - k,by omega⟩
   have e1:(n:Int) - 1 - k=(j:Int):=by omega
   have hyl:ys.length=n:=hrev.len.trans hn.out.symm
   obtain⟨x,hx1⟩:=Yf (l:=ys) (k:=k) (by omega)
   obtain⟨y,hy1⟩:=Yf (l:=ys) (k:=j) (by omega)
   have r0:wr.cell? ⟨g,k,none⟩=some (.int .i64 x):=by rw [World.ownsRow.cellAt hx k (by omega),List.getElem?_map,hx1.out];rfl
   have r1:wr.cell? ⟨g,j,none⟩=some (.int .i64 y):=by rw [World.ownsRow.cellAt hx j (by omega),List.getElem?_map,hy1.out];rfl
   have f0:wr.frozen? ⟨g,k,none⟩=false:=World.ownsRow.frozenAt hx k
   have f1:wr.frozen? ⟨g,j,none⟩=false:=World.ownsRow.frozenAt hx j
   have st:=(World.ownsRow.stored (World.ownsRow.stored hx k (.int .i64 y)).1 j (.int .i64 x)).1
   rw [map_set,map_set] at st
   replace st:=hide st
   have hrev2:=hide (revAt_step hrev (by rw [←hn.out];exact hj) (by omega) hx1.out hy1.out)
   have f2:(wr.setCell ⟨g,k,none⟩ (.int .i64 y)).frozen? ⟨g,j,none⟩=false:=World.ownsRow.frozenAt (World.ownsRow.stored hx k (.int .i64 y)).1 j
   have hb9:=hide ((hbel.setCell (p:=⟨g,k,none⟩) (.inl rfl) (.int .i64 y)).setCell (p:=⟨g,j,none⟩) (.inl rfl) (.int .i64 x))
   rw [e1]
   have hkj:(k:Int)<(j:Int):=by omega
   have hne:k≠j:=by omega
   clear hrow hbel
   refine hd4 hx hrev hyl e1 ?_;clear hx hrev hyl e1;intro hx hrev hyl e1
   go_upto_region 3 with(fail)
   go_region
   go_wp2
   go_roundw
   case rel=>exact⟨k+1,by omega,by go_num,by have:=e1.out;congr 1;omega,hide ⟨_,hrev2.out,st.out⟩,hb9.out.drew⟩
   case measure=>simp [intOf];omega
  ·have hend : Hid (ys = l.reverse) := hide (revAt_end hrev (by rw [← hn.out]; omega))
   have hnlt:¬(k:Int)<(n:Int) - 1 - k:=by omega
   replace hx:=hide hx
   go_wp2
   go_end0
   refine⟨rfl,⟨by rw [List.length_reverse,←hn.out,←hend.out];exact hx.out,fun x hx'=>hok.out x (List.mem_reverse.1 hx')⟩,hbel⟩
end Go.Proofs.YtamjcafjdioidaaGreat
