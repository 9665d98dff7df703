/-
  Part 8 of an abstract machine that answers as the model does.
  A region that draws its order: from what was compiled.
  Code: what the abstract machine says of it holds of every walk of it.
  Functions and rounds: the abstract machine's calls are the model's.
  Rounds; the oracle that the abstract machine's own calls make.
  The least oracle: what the code answers under it, it answers.
-/
import Derived.Test.YtflfdglnelbbiaaGreatV7
import Derived.Scope
set_option linter.all false
set_option linter.unusedVariables false
set_option linter.unusedSimpArgs false
set_option linter.unusedSectionVars false
namespace Go.VM
open Go
def hoistR:List (Nat × HSh)→Regs→Nat→Regs
 | [],r,_=>r
 | (t,s)::l,r,m=>hoistR l (upd r t (hval s m)) (m+1)
theorem hoist_eq {R:Type}:∀ {al:List (Nat × HSh × List PV)} {r:Regs} {h:Heap} {k:Regs→Heap→Option R},hoist al r h k=k (hoistR (al.map fun p=>(p.1,p.2.1)) r h.length) (h++al.map fun p=>.pcells p.2.2):=by
 intro al
 induction al with
 | nil=>intro r h k; simp [hoist,hoistR]
 | cons p al ih=>
   intro r h k
   obtain ⟨t,s,z⟩:=p
   simp only [hoist,ih,hoistR,List.map_cons]
   congr 1
   ·simp
   ·simp
theorem hoistR_skip {t:Nat}:∀ {l:List (Nat × HSh)} {r:Regs} {m:Nat},(∀ x∈l,x.1≠t)→hoistR l r m t=r t:=by
 intro l
 induction l with
 | nil=>intro r m _; rfl
 | cons x l ih=>
   intro r m h
   obtain ⟨u,s⟩:=x
   simp only [hoistR]
   rw [ih fun x hx=>h x (List.mem_cons_of_mem _ hx)]
   exact bi (d:=some u) (fun e=>h (u,s) (List.mem_cons_self ..) (by injection e))
theorem hoistR_at {t:Nat} {s:HSh}:∀ {l:List (Nat × HSh)} {r:Regs} {m k:Nat},l[k]? = some (t,s)→(∀ k' x,l[k']? = some x→x.1=t→k'=k)→hoistR l r m t=hval s (m+k):=by
 intro l
 induction l with
 | nil=>intro r m k h; simp at h
 | cons x l ih=>
   intro r m k h hu
   obtain ⟨u,s0⟩:=x
   simp only [hoistR]
   cases k with
   | zero=>
     simp at h; obtain ⟨e1,e2⟩:=h; subst e1; subst e2
     rw [hoistR_skip fun x hx e=>by
      obtain ⟨k',hk'⟩:=List.getElem?_of_mem hx
      have:=hu (k'+1) x (by simpa using hk') e
      omega]
     simp [upd]
   | succ k=>
     simp at h
     rw [ih h fun k' x hk' e=>by have:=hu (k'+1) x (by simpa using hk') e; omega]
     congr 1
     omega
def idAt (hl:Nat) (vs:List VOper) (j:Nat):Nat:=hl+((vs.take j).filterMap isAl).length
theorem filterMap_at {l:List VOper} {j:Nat} {v:VOper} {x:Nat × AlK} (hj:l[j]? = some v) (hv:isAl v=some x):(l.filterMap isAl)[((l.take j).filterMap isAl).length]? = some x:=by
 have hl:l=l.take j++v::l.drop (j+1):=by
  have h1:=(List.getElem?_eq_some_iff.1 hj).1
  have h2:=(List.getElem?_eq_some_iff.1 hj).2
  rw [←h2,←List.drop_eq_getElem_cons h1,List.take_append_drop]
 conv=>lhs; lhs; rw [hl]
 rw [List.filterMap_append,List.filterMap_cons_some hv,List.getElem?_append_right (Nat.le_refl _)]
 simp
theorem idAt_inj {hl:Nat} {l:List VOper} {j j':Nat} {v v':VOper} {x x':Nat × AlK} (hj:l[j]? = some v) (hj':l[j']? = some v') (hv:isAl v=some x) (hv':isAl v'=some x') (h:idAt hl l j=idAt hl l j'):j=j':=by
 have key:∀ {j j':Nat} {v:VOper} {x:Nat × AlK},l[j]? = some v→isAl v=some x→j<j'→((l.take j).filterMap isAl).length<((l.take j').filterMap isAl).length:=by
  intro j j' v x hj hv hlt
  have e:l.take j'=l.take j++(l.drop j).take (j'-j):=by
   conv=>lhs; rw [show j'=j+(j'-j) by omega,List.take_add]
  have h1:=(List.getElem?_eq_some_iff.1 hj).1
  have h2:=(List.getElem?_eq_some_iff.1 hj).2
  rw [e,List.filterMap_append,List.length_append]
  obtain ⟨d,hd⟩:∃ d,j'-j=d+1:=⟨j'-j-1,by omega⟩
  rw [hd,List.drop_eq_getElem_cons h1,h2,List.take_succ_cons,List.filterMap_cons_some hv]
  simp
 unfold idAt at h
 rcases Nat.lt_trichotomy j j' with hlt | hlt | hlt
 ·have:=key hj hv hlt; omega
 ·exact hlt
 ·have:=key hj' hv' hlt; omega
theorem filterMap_from:∀ {l:List VOper} {k:Nat} {x:Nat × AlK},(l.filterMap isAl)[k]? = some x→∃ (j:Nat) (v:VOper),l[j]? = some v∧isAl v=some x∧((l.take j).filterMap isAl).length=k:=by
 intro l
 induction l with
 | nil=>intro k x h; simp at h
 | cons v0 l ih=>
   intro k x h
   cases hv0:isAl v0 with
   | none=>
     rw [List.filterMap_cons_none hv0] at h
     obtain ⟨j,v,h1,h2,h3⟩:=ih h
     exact ⟨j+1,v,by simpa using h1,h2,by rw [List.take_succ_cons,List.filterMap_cons_none hv0]; exact h3⟩
   | some y=>
     rw [List.filterMap_cons_some hv0] at h
     cases k with
     | zero=>simp at h; subst h; exact ⟨0,v0,rfl,hv0,rfl⟩
     | succ k=>
       simp at h
       obtain ⟨j,v,h1,h2,h3⟩:=ih h
       exact ⟨j+1,v,by simpa using h1,h2,by rw [List.take_succ_cons,List.filterMap_cons_some hv0,List.length_cons,h3]⟩
def alS (all:List VOper) (i:Nat):AlK→AlS
 | .z z=>.z z
 | .x x=>.x i (preOf (all.take i).reverse x.tmps []) x
 | .m es z x=>.m i (preOf (all.take i).reverse x.tmps []) es z x
theorem mkAl_cons {all l:List VOper} {v:VOper} {i:Nat} {t:Nat} {z:AlK} (h:isAl v=some (t,z)):mkAl all (v::l) i=(t,alS all i z)::mkAl all l (i+1):=by
 cases z with
 | z z=>simp only [mkAl,h,alS]
 | x x=>simp only [mkAl,h,alS]
 | m es z x=>simp only [mkAl,h,alS]
theorem mkAl_skip {all l:List VOper} {v:VOper} {i:Nat} (h:isAl v=none):mkAl all (v::l) i=mkAl all l (i+1):=by simp only [mkAl,h]
theorem mkAl_fst {all:List VOper}:∀ {l:List VOper} {i:Nat},(mkAl all l i).map (·.1)=(l.filterMap isAl).map (·.1):=by
 intro l
 induction l with
 | nil=>intro i; rfl
 | cons v l ih=>
   intro i
   cases hv:isAl v with
   | none=>rw [mkAl_skip hv,List.filterMap_cons_none hv]; exact ih
   | some x=>
     obtain ⟨t,z⟩:=x
     rw [mkAl_cons hv,List.filterMap_cons_some hv,List.map_cons,List.map_cons,ih]
theorem mkAl_at {all:List VOper}:∀ {l:List VOper} {i j:Nat} {v:VOper} {t:Nat} {z:AlK},l[j]? = some v→isAl v=some (t,z)→(mkAl all l i)[((l.take j).filterMap isAl).length]? = some (t,alS all (i+j) z):=by
 intro l
 induction l with
 | nil=>intro i j v t z h; simp at h
 | cons v0 l ih=>
   intro i j v t z hj hv
   cases j with
   | zero=>
     simp at hj; subst hj
     rw [mkAl_cons hv]
     simp
   | succ j=>
     simp at hj
     have:=ih (i:=i+1) hj hv
     rw [Nat.add_assoc,Nat.add_comm 1 j] at this
     cases hv0:isAl v0 with
     | none=>rw [mkAl_skip hv0,List.take_succ_cons,List.filterMap_cons_none hv0]; exact this
     | some x=>
       obtain ⟨u,z0⟩:=x
       rw [mkAl_cons hv0,List.take_succ_cons,List.filterMap_cons_some hv0,List.length_cons,List.getElem?_cons_succ]; exact this
theorem hget_eq (H:Heap) (i:Nat):hget H i=(H[i]?).getD .dead:=by
 induction H generalizing i with
 | nil=>cases i<;>rfl
 | cons o H ih=>cases i with
   | zero=>rfl
   | succ i=>simpa [hget] using ih i
theorem SRel.more {Γ:Ctx} {base:Nat} {κ:K} {H:Heap} {w:World} (h:SRel Γ base κ H w) (L:Heap):SRel Γ base κ (H++L) w:=by
 have hp:∀ id k,place κ id (hget (H++L) id)=some k→hget (H++L) id=hget H id:=by
  intro id k hk
  rcases Nat.lt_or_ge id H.length with hlt | hge
  ·exact hget_append_lt hlt
  ·exfalso
   obtain ⟨h1,h2⟩:=h.fresh id hge
   cases ho:hget (H++L) id<;>rw [ho] at hk<;>simp [place,h1,h2] at hk
 refine ⟨h.imm,fun id k hk=>?_,fun id id' k hk hk'=>?_,fun id hid=>h.fresh id (by simp at hid; omega),h.base,h.gv,h.gn⟩
 ·have e:=hp id k hk
  rw [e] at hk ⊢
  exact h.obj id k hk
 ·rw [hp id k hk] at hk; rw [hp id' k hk'] at hk'
  exact h.inj id id' k hk hk'
theorem Grow.more {κ0 κ:K} {H0 H:Heap} {w0 w:World} (g:Grow κ0 H0 w0 κ H w) (L:Heap) (hf:∀ id,H.length≤id→Idle κ id):Grow κ0 H0 w0 κ (H++L) w:=by
 refine ⟨g.le,g.size,by have:=g.len; simp; omega,g.os,g.tape,g.output,g.frame,fun id k hk=>?_,g.imm,fun id hid hi=>?_⟩
 ·rcases Nat.lt_or_ge id H.length with hlt | hge
  ·rw [hget_append_lt hlt] at hk; exact g.places id k hk
  ·exfalso
   obtain ⟨h1,h2⟩:=hf id hge
   cases ho:hget (H++L) id<;>rw [ho] at hk<;>simp [place,h1,h2] at hk
 ·rw [hget_append_lt (Nat.lt_of_lt_of_le hid g.len)]; exact g.idle id hid hi
theorem Marks.more {sz:Nat} {κ:K} {H:Heap} {w:World} {ds:List Deferred} (h:Marks sz κ H w ds) (L:Heap) (hf:∀ id,H.length≤id→Idle κ id):Marks sz κ (H++L) w ds:=by
 induction h with
 | nil=>exact .nil
 | cons D ds h1 h2 h3 h4 _ ih=>
   refine .cons D ds h1 h2 (fun id hk=>?_) h4 ih
   rcases Nat.lt_or_ge id H.length with hlt | hge
   ·rw [hget_append_lt hlt] at hk; exact h3 id hk
   ·obtain ⟨h1,h2⟩:=hf id hge
    cases ho:hget (H++L) id<;>rw [ho] at hk<;>simp [place,h1,h2] at hk
section
variable {Γ:Ctx} {env:Env} {E:Orc} {n:Nat} {mu:Nat→Mu} {ops:Array Oper} {R:Type}
theorem dis_of {md:FuncId→Mode} {vs:List VOper} {deps preds:List (List Nat)} {pairs:List (Nat × Nat)} (h:drawOK md vs deps preds pairs=true) :
 ∀ (i j:Nat) (vi vj:VOper) (t:Nat) (z:AlK),i≠j→vs[i]? = some vi→vs[j]? = some vj→isAl vj=some (t,z)→vi.dst≠some t:=by
 intro i j vi vj t z hne hi hj ha hd
 have h1:=allFrom_get h hi
 rw [Nat.zero_add,Bool.and_eq_true] at h1
 have h2:=allFrom_get h1.2 hj
 rw [Nat.zero_add,Bool.or_eq_true] at h2
 rcases h2 with h2 | h2
 ·exact hne (Nat.eq_of_beq_eq_true h2)
 ·simp only [both,Bool.and_eq_true,ha] at h2
  obtain ⟨⟨⟨_,_,h3⟩,_⟩,_⟩:=h2
  rw [hd] at h3
  simp at h3
theorem draw_sound (hE:OrcOK Γ E) (hm:Γ.P.follows .mixedOrders=true) (ro:Option Nat) {base sz:Nat} {κ0 κ:K} {Hs H:Heap} {w0 w:World} {r r2:Regs} {h2:Heap} {a:Act} {id:Nat} {preds:List (List Nat)} {pairs:List (Nat × Nat)} {T:List Ev} {Q:Exit→Act→World→Prop} {bx ms:Bool} {al:List (Nat × HSh × List PV)}
 (hok:drawOK env.md ((compOpers Γ.P mu n ops.toList ops.toList).map (hb bx ms)) (ops.toList.map depsOf) preds pairs=true)
 (hfst:al.map (·.1)=(((compOpers Γ.P mu n ops.toList ops.toList).map (hb bx ms)).filterMap isAl).map (·.1))
 (hcz:∀ (j:Nat) (v:VOper) (t:Nat) (z:List PV),((compOpers Γ.P mu n ops.toList ops.toList).map (hb bx ms))[j]? = some v→isAl v=some (t,.z z)→al[((((compOpers Γ.P mu n ops.toList ops.toList).map (hb bx ms)).take j).filterMap isAl).length]? = some (t,none,z))
 (hcx:∀ (j:Nat) (v:VOper) (t:Nat) (x:Opd) (e:Ev),((compOpers Γ.P mu n ops.toList ops.toList).map (hb bx ms))[j]? = some v→isAl v=some (t,.x x)→T[j]? = some e→∃ p c,x.ev e.rb = .pv p∧cellsP p=some c∧al[((((compOpers Γ.P mu n ops.toList ops.toList).map (hb bx ms)).take j).filterMap isAl).length]? = some (t,none,c))
 (hcm:∀ (j:Nat) (v:VOper) (t es:Nat) (z:List PV) (x:Opd) (e:Ev),((compOpers Γ.P mu n ops.toList ops.toList).map (hb bx ms))[j]? = some v→isAl v=some (t,.m es z x)→T[j]? = some e→∃ k n',x.ev e.rb = .pv (.int k n')∧0≤n'∧n'≤1099511627776∧al[((((compOpers Γ.P mu n ops.toList ops.toList).map (hb bx ms)).take j).filterMap isAl).length]? = some (t,some (es,n'.toNat),zerosOf z n'.toNat))
 (hrun:Run env E (((compOpers Γ.P mu n ops.toList ops.toList).map (hb bx ms)).map idled) (hoistR (al.map fun p=>(p.1,p.2.1)) r H.length) (H++al.map fun p=>.pcells p.2.2) T r2 h2)
 (hpair:∀ (i j:Nat) (oi:VOper) (ei ej:Ev),(i,j)∈pairs→(((compOpers Γ.P mu n ops.toList ops.toList).map (hb bx ms)).map idled)[i]? = some oi→T[i]? = some ei→ei.did=true→T[j]? = some ej→ej.did=true→∀ p m,loadOf oi.op ei.rb=some (p,m) →
   (∃ id off,p = .ptr id off∧readObj (hget ej.hb id) off m=readObj (hget ej.ha id) off m)∨(∃ cs off,p = .rptr cs off))
 (hcf:Conf Γ base sz n κ H w r a) (hg:Grow κ0 Hs w0 κ H w)
 (hfin:∀ κ a w,Conf Γ base sz n κ h2 w r2 a→Grow κ0 Hs w0 κ h2 w→Q .normal a w):(Code.region id ops true).wpIn (wideR ro) 0 Γ.P Q a w:=by
 obtain ⟨vs,hvs⟩:∃ vs,vs=(compOpers Γ.P mu n ops.toList ops.toList).map (hb bx ms):=⟨_,rfl⟩
 rw [←hvs] at hok hrun hpair hfst hcz hcx hcm
 have hdis:=dis_of hok
 have hlen:al.length=(vs.filterMap isAl).length:=by
  have:=congrArg List.length hfst
  simpa using this
 have hlt:∀ (j:Nat) (v:VOper) (x:Nat × AlK),vs[j]? = some v→isAl v=some x→((vs.take j).filterMap isAl).length<al.length:=by
  intro j v x hj hv
  rw [hlen]
  exact (List.getElem?_eq_some_iff.1 (filterMap_at hj hv)).1
 have hreg0:∀ (j:Nat) (v:VOper) (t:Nat) (z:AlK) (sh:HSh) (c:List PV),vs[j]? = some v→isAl v=some (t,z)→al[((vs.take j).filterMap isAl).length]? = some (t,sh,c)→hoistR (al.map fun p=>(p.1,p.2.1)) r H.length t=hval sh (idAt H.length vs j):=by
  intro j v t z sh c hj hv hc
  refine hoistR_at (by rw [List.getElem?_map,hc]; rfl) fun k' x hx ht=>?_
  rw [List.getElem?_map] at hx
  obtain ⟨y,hy,hyx⟩:=map_some hx
  have e1:(al.map (·.1))[k']? = some t:=by rw [List.getElem?_map,hy]; subst hyx; rw [←ht]; rfl
  rw [hfst,List.getElem?_map] at e1
  obtain ⟨y',hy',hyt⟩:=map_some e1
  obtain ⟨j',v',q1,q2,q3⟩:=filterMap_from hy'
  obtain ⟨t',z'⟩:=y'
  simp only at hyt
  subst hyt
  by_cases hjj:j=j'
  ·subst hjj; exact q3.symm
  ·exact (hdis j j' v v' _ z' hjj hj q1 q2 (isAl_dst hv).1).elim
 have hrest0:∀ t,alOf vs 0 t=none→hoistR (al.map fun p=>(p.1,p.2.1)) r H.length t=r t:=by
  intro t ht
  refine hoistR_skip fun x hx hxt=>?_
  obtain ⟨y,hy,hyx⟩:=List.mem_map.1 hx
  have e1:t∈al.map (·.1):=List.mem_map.2 ⟨y,hy,by subst hyx; exact hxt⟩
  rw [hfst] at e1
  obtain ⟨y',hy',hyt⟩:=List.mem_map.1 e1
  obtain ⟨v,hv,hvy⟩:=List.mem_filterMap.1 hy'
  obtain ⟨j,hj⟩:=List.getElem?_of_mem hv
  obtain ⟨t',z'⟩:=y'
  simp only at hyt
  subst hyt
  exact alOf_none ht j v z' hj hvy
 have hgetc:∀ (j:Nat) (t:Nat) (sh:HSh) (c:List PV),al[((vs.take j).filterMap isAl).length]? = some (t,sh,c)→hget (H++al.map fun p=>.pcells p.2.2) (idAt H.length vs j) = .pcells c:=by
  intro j t sh c hc
  rw [hget_eq,List.getElem?_append_right (by unfold idAt; omega)]
  have e:idAt H.length vs j-H.length=((vs.take j).filterMap isAl).length:=by unfold idAt; omega
  rw [e,List.getElem?_map,hc]
  rfl
 have D:Drawn Γ env E n H.length mu ops vs preds pairs r (hoistR (al.map fun p=>(p.1,p.2.1)) r H.length) (H++al.map fun p=>.pcells p.2.2) T r2 h2 (idAt H.length vs):=
  { vs_eq:=⟨bx,ms,hvs⟩,ok:=hok,run:=hrun,pair:=hpair
    al:=fun j v t z hj hv=>⟨by unfold idAt; omega,by
     have:=hlt j v _ hj hv
     rw [List.length_append,List.length_map]; unfold idAt; omega⟩
    inj:=fun j j' v v' x x' hj hj' hv hv' h=>idAt_inj hj hj' hv hv' h
    rest:=hrest0
    alz:=fun j v t z hj hv=>⟨hreg0 j v t _ _ _ hj hv (hcz j v t z hj hv),hgetc j t _ z (hcz j v t z hj hv)⟩
    alx:=fun j v t x e hj hv hT=>by
     obtain ⟨p,c,q1,q2,q3⟩:=hcx j v t x e hj hv hT
     exact ⟨hreg0 j v t _ _ _ hj hv q3,p,c,q1,q2,hgetc j t _ c q3⟩
    alm:=fun j v t es z x e hj hv hT=>by
     obtain ⟨k,m,q1,q2,q3,q4⟩:=hcm j v t es z x e hj hv hT
     exact ⟨k,m,q1,q2,q3,hreg0 j v t _ _ _ hj hv q4,hgetc j t _ _ q4⟩ }
 have hidle:∀ id,H.length≤id→Idle κ id:=fun id hid=>hcf.srel.fresh id hid
 refine wpIn_region_any hm (draw_any D hE ro hg.len hfin ops.size _ a _ ?_ (by simp))
 have hset:setOf (Array.replicate ops.size false)=fun _=>false:=by
  funext j
  simp only [setOf,Array.getD_eq_getD_getElem?,Array.getElem?_replicate]
  split<;>rfl
 have hheap:heapS env.md (fun _=>false) (vs.map idled) T 0 (H++al.map fun p=>.pcells p.2.2)=H++al.map fun p=>.pcells p.2.2:=heapS_skip fun _ _ _ _=>rfl
 have hreg:regR vs T r (hoistR (al.map fun p=>(p.1,p.2.1)) r H.length) (fun _=>false)=r:=by
  funext t
  unfold regR
  cases ht:alOf vs 0 t with
  | some j=>rfl
  | none=>
    simp only
    rw [regS_skip fun _ _ _ h=>by cases h]
    exact D.rest t ht
 refine ⟨by simp,⟨fun j hj=>(by rw [hset] at hj; cases hj),fun j hj=>(by rw [hset] at hj; cases hj)⟩,κ,?_,?_,?_⟩
 ·rw [hset,hheap,hreg]
  exact ⟨(hcf.srel.drew).1.more _,hcf.regs,hcf.size,((hcf.marks.grow (hcf.srel.drew).2).more _ hidle)⟩
 ·rw [hset,hheap]
  exact (hg.trans (hcf.srel.drew).2).more _ hidle
 ·intro j v t z hj hv _
  rw [hset,hheap]
  exact ⟨hidle _ (by unfold idAt; omega),(D.al j v t z hj hv).2,rfl⟩
theorem filterMap_nil {vs:List VOper} (h:vs.filterMap isAl=[]):vs.map idled=vs:=by
 induction vs with
 | nil=>rfl
 | cons v vs ih=>
   cases hv:isAl v with
   | some x=>rw [List.filterMap_cons_some hv] at h; cases h
   | none=>
     rw [List.filterMap_cons_none hv] at h
     rw [List.map_cons,ih h,idled_no hv]
theorem compDraw1_sound (hE:OrcOK Γ E) (hm:Γ.P.follows .mixedOrders=true) (ro:Option Nat) {base sz:Nat} {κ0 κ:K} {Hs H:Heap} {w0 w:World} {r:Regs} {a:Act} {id:Nat} {k:Ex→Regs→Heap→Option R} {y:R} {Q:Exit→Act→World→Prop} (bx ms:Bool)
 (hok:drawOK env.md ((compOpers Γ.P mu n ops.toList ops.toList).map (hb bx ms)) (ops.toList.map depsOf) (predsOf (ops.toList.map depsOf) []) (mkPairs env.md ((compOpers Γ.P mu n ops.toList ops.toList).map (hb bx ms)) (predsOf (ops.toList.map depsOf) []))=true)
 (he:evK env E (compDraw1 env.md ((compOpers Γ.P mu n ops.toList ops.toList).map (hb bx ms)) (predsOf (ops.toList.map depsOf) [])) R r H k=some y) (hcf:Conf Γ base sz n κ H w r a) (hg:Grow κ0 Hs w0 κ H w)
 (hQ:∀ r' H' κ' a' w',k .normal r' H'=some y→Conf Γ base sz n κ' H' w' r' a'→Grow κ0 Hs w0 κ' H' w'→Q .normal a' w'):(Code.region id ops true).wpIn (wideR ro) 0 Γ.P Q a w:=by
 unfold compDraw1 at he
 split at he
 ·rename_i hal hps
  simp only [evK_skip,evK_ops,bB,evK_seq,bA,bn,bC,b8,evK_exit,evK_ret] at he
  obtain ⟨T,r',h',g1,g2⟩:=evOps_run he
  have hnil:((compOpers Γ.P mu n ops.toList ops.toList).map (hb bx ms)).filterMap isAl=[]:=by
   have:=mkAl_fst (all:=(compOpers Γ.P mu n ops.toList ops.toList).map (hb bx ms)) (l:=(compOpers Γ.P mu n ops.toList ops.toList).map (hb bx ms)) (i:=0)
   rw [hal] at this
   exact List.map_eq_nil_iff.1 this.symm
  have none:∀ (j:Nat) (v:VOper) (x:Nat × AlK),((compOpers Γ.P mu n ops.toList ops.toList).map (hb bx ms))[j]? = some v→isAl v=some x→False:=fun j v x hj hv=>by
   have:=filterMap_at hj hv
   rw [hnil] at this
   simp at this
  refine draw_sound hE hm ro (T:=T) (r2:=r') (h2:=h') (al:=[]) hok (by rw [hnil]; rfl) (fun j v t z hj hv=>(none j v _ hj hv).elim) (fun j v t x e hj hv=>(none j v _ hj hv).elim) (fun j v t es z x e hj hv=>(none j v _ hj hv).elim) ?_ ?_ hcf hg fun κ' a' w' c1 c2=>hQ r' h' κ' a' w' g2 c1 c2
  ·rw [filterMap_nil hnil]
   simpa [hoistR] using g1
  ·intro i j oi ei ej hp
   rw [hps] at hp; cases hp
 ·simp only [evK_skip,evK_ops,bB,evK_seq,bA,bn,bC,b8,evK_exit,evK_ret] at he
  obtain ⟨al,zs,he,hf,hheld⟩:=conts_inv he
  rw [hoist_eq] at he
  obtain ⟨T,r',h',g1,g2⟩:=evDraw_run he
  obtain ⟨g2,g3⟩:=checkPairs_inv g2
  obtain ⟨g2,g4⟩:=checkBox_inv g2
  refine draw_sound hE hm ro (T:=T) (r2:=r') (h2:=h') hok (hf.trans mkAl_fst) ?_ ?_ ?_ g1 ?_ hcf hg fun κ' a' w' c1 c2=>hQ r' h' κ' a' w' g2 c1 c2
  ·intro j v t z hj hv
   obtain ⟨sh,c,q1,q2⟩:=hheld _ t _ (mkAl_at hj hv)
   obtain ⟨e1,e2⟩:sh=none∧c=z:=q2
   rw [e1,e2] at q1
   exact q1
  ·intro j v t x e hj hv hT
   obtain ⟨sh,c,q1,q2⟩:=hheld _ t _ (mkAl_at hj hv)
   obtain ⟨q0,p,q3,q4⟩:=q2
   subst q0
   rw [Nat.zero_add] at q3
   obtain ⟨m,q5⟩:=g4 j p q3
   have hidl:idled v=⟨none,none,.idleX x⟩:=by simp [idled,hv]
   have hoi:(((compOpers Γ.P mu n ops.toList ops.toList).map (hb bx ms)).map idled)[j]? = some ⟨none,none,.idleX x⟩:=by rw [List.getElem?_map,hj,←hidl]; rfl
   have hdid:e.did=true:=by
    rcases g1.at hoi hT with ⟨h,_,_⟩ | ⟨_,h,_,_⟩
    ·exact h
    ·cases h
   have f1:=loadsOf_find (i:=0) (acc:=[]) hoi hT hdid (x:=(x.ev e.rb,none)) rfl
   rw [Nat.zero_add,q5] at f1
   injection f1 with f1; injection f1 with f1 _
   exact ⟨p,c,f1.symm,q4,q1⟩
  ·intro j v t es z x e hj hv hT
   obtain ⟨sh,c,q1,q2⟩:=hheld _ t _ (mkAl_at hj hv)
   obtain ⟨kd,nn,q3,q4,q6,q7,q8⟩:=q2
   subst q7; subst q8
   rw [Nat.zero_add] at q3
   obtain ⟨m,q5⟩:=g4 j _ q3
   have hidl:idled v=⟨none,none,.idleX x⟩:=by simp [idled,hv]
   have hoi:(((compOpers Γ.P mu n ops.toList ops.toList).map (hb bx ms)).map idled)[j]? = some ⟨none,none,.idleX x⟩:=by rw [List.getElem?_map,hj,←hidl]; rfl
   have hdid:e.did=true:=by
    rcases g1.at hoi hT with ⟨h,_,_⟩ | ⟨_,h,_,_⟩
    ·exact h
    ·cases h
   have f1:=loadsOf_find (i:=0) (acc:=[]) hoi hT hdid (x:=(x.ev e.rb,none)) rfl
   rw [Nat.zero_add,q5] at f1
   injection f1 with f1; injection f1 with f1 _
   exact ⟨kd,nn,f1.symm,q4,q6,q1⟩
  ·intro i j oi ei ej hp hoi hei hdi hej hdj p m hl
   have f1:=loadsOf_find (i:=0) (acc:=[]) hoi hei hdi hl
   have f2:=effsOf_find (pairs:=mkPairs env.md ((compOpers Γ.P mu n ops.toList ops.toList).map (hb bx ms)) (predsOf (ops.toList.map depsOf) [])) (i:=0) (acc:=[]) hej hdj (by rw [Nat.zero_add]; exact hasSnd_mem hp)
   rw [Nat.zero_add] at f1 f2
   exact g3 i j p m ej.hb ej.ha hp f1 f2
theorem compDraw_sound (hE:OrcOK Γ E) (hm:Γ.P.follows .mixedOrders=true) (ro:Option Nat) {base sz:Nat} {κ0 κ:K} {Hs H:Heap} {w0 w:World} {r:Regs} {a:Act} {id:Nat} {k:Ex→Regs→Heap→Option R} {y:R} {Q:Exit→Act→World→Prop}
 (he:evK env E (compDraw env.md (compOpers Γ.P mu n ops.toList ops.toList) (ops.toList.map depsOf)) R r H k=some y) (hcf:Conf Γ base sz n κ H w r a) (hg:Grow κ0 Hs w0 κ H w)
 (hQ:∀ r' H' κ' a' w',k .normal r' H'=some y→Conf Γ base sz n κ' H' w' r' a'→Grow κ0 Hs w0 κ' H' w'→Q .normal a' w'):(Code.region id ops true).wpIn (wideR ro) 0 Γ.P Q a w:=by
 have key:∀ (bx ms:Bool) (e:VCode),evK env E (tryDraw env.md (compOpers Γ.P mu n ops.toList ops.toList) (ops.toList.map depsOf) (predsOf (ops.toList.map depsOf) []) bx ms e) R r H k=some y →
  (evK env E e R r H k=some y→(Code.region id ops true).wpIn (wideR ro) 0 Γ.P Q a w)→(Code.region id ops true).wpIn (wideR ro) 0 Γ.P Q a w:=by
  intro bx ms e he hno
  unfold tryDraw at he
  cases hok:drawOK env.md ((compOpers Γ.P mu n ops.toList ops.toList).map (hb bx ms)) (ops.toList.map depsOf) (predsOf (ops.toList.map depsOf) []) (mkPairs env.md ((compOpers Γ.P mu n ops.toList ops.toList).map (hb bx ms)) (predsOf (ops.toList.map depsOf) [])) with
  | true=>
    rw [hok] at he
    simp only [cond_true] at he
    exact compDraw1_sound hE hm ro bx ms hok he hcf hg hQ
  | false=>
    rw [hok] at he
    exact hno he
 unfold compDraw at he
 refine key _ _ _ he fun he=>key _ _ _ he fun he=>key _ _ _ he fun he=>key _ _ _ he fun he=>?_
 simp only [evK_skip,evK_ops,bB,evK_seq,bA,bn,bC,b8,evK_exit,evK_ret,evOps_nil,evOps_cons,wantedV,cond_true,operK,opK] at he
 cases he
end
end Go.VM
namespace Go.VM
open Go
def exOf:Ex→Exit
 | .normal=>.normal
 | .exit id=>.exit id
 | .ret=>.ret
theorem least {p:Nat→Prop} (h:∃ n,p n):∃ n,p n ∧ ∀ m,p m→n≤m:=by
 obtain ⟨n,hn⟩:=h
 induction n using Nat.strongRecOn with
 | _ n ih=>
   by_cases hl:∃ m,m<n∧p m
   ·obtain ⟨m,h1,h2⟩:=hl; exact ih m h1 h2
   ·exact ⟨n,hn,fun m hm=>by
     rcases Nat.lt_or_ge m n with h | h
     ·exact absurd ⟨m,h,hm⟩ hl
     ·exact h⟩
theorem wpIn_loopN {F:Fence} {n:Nat} {P:Program} {Q:Exit→Act→World→Prop} {a:Act} {w:World} {c:Code} (J:Nat→Act→World→Prop) (h0:∃ m,J m a w) (hz:∀ a w,¬ J 0 a w)
 (round:∀ m a w,J (m+1) a w→c.wpIn F n P (Exit.then (J m) Q) a w):(Code.loop c).wpIn F n P Q a w:=by
 classical
 refine wpIn_loop (fun a w=>∃ m,J m a w) (fun a w=>if h:∃ m,J m a w then (least h).choose else 0) h0 fun a w hI=>?_
 have hs:=(least hI).choose_spec
 simp only [dif_pos hI]
 generalize (least hI).choose=m at hs ⊢
 cases m with
 | zero=>exact absurd hs.1 (hz a w)
 | succ m=>
   refine wpIn_mono (round m a w hs.1) fun e a' w' hq=>?_
   cases e with
   | normal=>
     have hI':∃ m,J m a' w':=⟨m,hq⟩
     refine ⟨hI',?_⟩
     simp only [dif_pos hI']
     exact Nat.lt_succ_of_le ((least hI').choose_spec.2 m hq)
   | _=>exact hq
section
variable {Γ:Ctx} {base:Nat} {κ:K} {H:Heap} {w:World}
theorem SRel.loopTurn (h:SRel Γ base κ H w) {id l:Nat} {lo:VLoop} {L L':Loop} {o:HObj} (hl:κ.loc id=some l) (hg:hget H id = .loop lo) (hL:w.heap[l]? = some (.loop L)) (ho:o = .dead ∨ ∃ lo',o = .loop lo'∧LoopRel Γ κ lo' L') :
 SRel Γ base κ (hset H id o) (w.putObj l (.loop L'))∧Grow κ H w κ (hset H id o) (w.putObj l (.loop L')):=by
 have hlt:l<w.heap.size:=(Array.getElem?_eq_some_iff.1 hL).1
 refine h.turnOne id o l l ⟨rfl,rfl,rfl,by simp⟩ κ.le_refl (by rw [hg]; exact hl) rfl (fun _ _=>rfl) (fun k _ hne=>World.putObj_heap_other hne) (fun a v hv=>?_) (fun k hk=>?_) (.inl rfl) ?_
 ·have hne:a.block≠l:=fun e=>by
   have hc:=h.imm a v hv
   unfold World.cell? at hc
   rw [e,hL] at hc
   simp at hc
  exact ⟨(World.cell?_of_block (World.putObj_heap_other hne)).trans (h.imm a v hv),.inl hv⟩
 ·rcases ho with rfl | ⟨lo',rfl,_⟩
  ·cases hk
  ·simp only [place] at hk; rw [hl] at hk; exact (Option.some.inj hk).symm
 ·rcases ho with rfl | ⟨lo',rfl,hr⟩
  ·trivial
  ·exact ⟨L',World.putObj_heap_same hlt,hr⟩
end
theorem some_bind {α β:Type} {x:Option α} {F:α→Option β} {y:β} (h:x.bind F=some y):∃ p,x=some p∧F p=some y:=by
 cases x with
 | none=>cases h
 | some p=>exact ⟨p,rfl,h⟩
theorem all_blt {l:List Nat} {n:Nat} (h:l.all (fun t=>Nat.blt t n)=true):∀ t∈l,t<n:=fun t ht=>blt_lt (List.all_eq_true.1 h t ht)
section
variable {P:Program} {b:Frame} {a:Act} {k:List Item} {cs:List Frame} {w:World} {F:Fence} {n:Nat} {Q:Exit→Act→World→Prop}
theorem stepR_scope {c:Code}:step P (lone (b.atR a (.code (.scope c)::k)) cs w) = .next (lone (b.atR a (.code c :: .inScope c::k)) cs w):=
 step_lone_go (by simp [stepG,stepG.exec,Frame.atR])
theorem stepR_inScope {c:Code}:step P (lone (b.atR a (.inScope c::k)) cs w) = .next (lone (b.atR a k) cs w):=
 step_lone_go (by simp [stepG,stepG.exec,Frame.atR])
theorem wpIn_scope {c:Code} (h:c.wpIn F n P (Exit.noGoto Q) a w):(Code.scope c).wpIn F n P Q a w:=by
 intro b k cs hro hb hr
 have h0:(lone (b.atR a (.code (.scope c)::k)) cs w).fenced P F:=fenced_calm hb hr rfl
 obtain ⟨e,a₁,w₁,hq,harr⟩:=h b (.inScope c::k) cs hro hb hr
 cases e with
 | normal=>exact ⟨.normal,a₁,w₁,hq,.head h0 stepR_scope (StepsIn.trans harr (.one (fenced_calm hb hr rfl) stepR_inScope))⟩
 | exit id=>
   have hx:exitTo id (.inScope c::k)=exitTo id k:=by simp [exitTo]
   exact ⟨.exit id,a₁,w₁,hq,fun k' hk=>.head h0 stepR_scope (harr.1 k' (by rw [hx]; exact hk)),
    fun hr' hk=>let ⟨k₁,h1,h2⟩:=harr.2 hr' (by rw [hx]; exact hk); ⟨k₁,h1,.head h0 stepR_scope h2⟩⟩
 | goto l=>exact hq.elim
 | ret=>exact ⟨_,a₁,w₁,hq,.of_steps (.one h0 stepR_scope) harr⟩
 | panic ch=>exact ⟨_,a₁,w₁,hq,.of_steps (.one h0 stepR_scope) harr⟩
 | outgrown=>exact ⟨_,a₁,w₁,hq,.of_steps (.one h0 stepR_scope) harr⟩
end
section
variable {Γ:Ctx} {env:Env} {E:Orc} {mu:Nat→Mu} {n:Nat}
theorem evOps_bad {R:Type} {r:Regs} {H:Heap} {k:Ex→Regs→Heap→Option R} {y:R} (he:evK env E (.ops [⟨none,none,.bad⟩]) R r H k=some y):False:=by
 simp only [evK_skip,evK_ops,bB,evK_seq,bA,bn,bC,b8,evK_exit,evK_ret,evOps_nil,evOps_cons,wantedV,cond_true,operK,opK] at he
 cases he
theorem code_sound (hE:OrcOK Γ E) (hm:Γ.P.follows .mixedOrders=true) (hmd:env.md=Γ.md) {base sz:Nat}:∀ (c:Code) (top:Bool) (ro:Option Nat),(top=true→ro=none)→∀ {R:Type} {κ0 κ:K} {Hs H:Heap} {w0 w:World} {r:Regs} {a:Act} {k:Ex→Regs→Heap→Option R} {y:R} {Q:Exit→Act→World→Prop},
 evK env E (compCode Γ.P Γ.md mu top n c) R r H k=some y→Conf Γ base sz n κ H w r a→Grow κ0 Hs w0 κ H w→sz≤w0.heap.size →
 (∀ e r' H' κ' a' w',k e r' H'=some y→Conf Γ base sz n κ' H' w' r' a'→Grow κ0 Hs w0 κ' H' w'→Q (exOf e) a' w')→c.wpIn (wideR ro) 0 Γ.P Q a w:=by
 intro c
 induction c with
 | skip=>
   intro top ro htop R κ0 κ Hs H w0 w r a k y Q he hcf hg hsz hQ
   exact wpIn_skip (hQ .normal r H κ a w he hcf hg)
 | region id ops draw=>
   intro top ro htop R κ0 κ Hs H w0 w r a k y Q he hcf hg hsz hQ
   cases draw with
   | false=>
     simp only [compCode,cond_false,evK_skip,evK_ops,bB,evK_seq,bA,bn,bC,b8,evK_exit,evK_ret] at he
     refine wpIn_region ?_
     rw [List.range_eq_range']
     have:=ops_sound hE ro (Q:=Q) (ops:=ops) (mu:=mu) (l:=ops.toList) 0 rfl r H a w κ hcf hg he fun r' H' κ' a' w' h1 h2 h3=>hQ .normal r' H' κ' a' w' h1 h2 h3
     simpa using this
   | true=>
     simp only [compCode,cond_true] at he
     rw [←hmd] at he
     exact compDraw_sound hE hm ro he hcf hg fun r' H' κ' a' w' h1 h2 h3=>hQ .normal r' H' κ' a' w' h1 h2 h3
 | seq x y ihx ihy=>
   intro top ro htop R κ0 κ Hs H w0 w r a k y' Q he hcf hg hsz hQ
   simp only [compCode,evK_skip,evK_ops,bB,evK_seq,bA,bn,bC,b8,evK_exit,evK_ret] at he
   refine wpIn_seq (ihx top ro htop he hcf hg hsz fun e r' H' κ' a' w' h1 h2 h3=>?_)
   cases e with
   | normal=>exact ihy top ro htop h1 h2 h3 hsz hQ
   | exit id=>exact hQ (.exit id) r' H' κ' a' w' h1 h2 h3
   | ret=>exact hQ .ret r' H' κ' a' w' h1 h2 h3
 | cond c x y ihx ihy=>
   intro top ro htop R κ0 κ Hs H w0 w r a k y' Q he hcf hg hsz hQ
   simp only [compCode] at he
   split at he
   ·rename_i c' hc
    simp only [evK_skip,evK_ops,bB,evK_seq,bA,bn,bC,b8,evK_exit,evK_ret] at he
    have hv:=aJ hcf.regs hc
    split at he
    ·rename_i b hb
     rw [hb] at hv
     refine wpIn_cond (bool_rel hv) ?_
     cases b with
     | true=>exact ihx top ro htop he hcf hg hsz hQ
     | false=>exact ihy top ro htop he hcf hg hsz hQ
    ·cases he
   ·exact (evOps_bad he).elim
 | block id c ih=>
   intro top ro htop R κ0 κ Hs H w0 w r a k y Q he hcf hg hsz hQ
   simp only [compCode,evK_skip,evK_ops,bB,evK_seq,bA,bn,bC,b8,evK_exit,evK_ret] at he
   refine wpIn_block (ih top ro htop he hcf hg hsz fun e r' H' κ' a' w' h1 h2 h3=>?_)
   cases e with
   | normal=>exact hQ .normal r' H' κ' a' w' h1 h2 h3
   | ret=>exact hQ .ret r' H' κ' a' w' h1 h2 h3
   | exit j=>
     simp only [exOf,Exit.inBlock]
     simp only at h1
     cases hb:Nat.beq j id with
     | true=>
       rw [hb] at h1
       rw [if_pos (Nat.eq_of_beq_eq_true hb)]
       exact hQ .normal r' H' κ' a' w' h1 h2 h3
     | false=>
       rw [hb] at h1
       rw [if_neg (fun e=>by subst e; simp at hb)]
       exact hQ (.exit j) r' H' κ' a' w' h1 h2 h3
 | loop c ih=>
   intro top ro htop R κ0 κ Hs H w0 w r a k y Q he hcf hg hsz hQ
   simp only [compCode,evK_skip,evK_ops,bB,evK_seq,bA,bn,bC,b8,evK_exit,evK_ret,loopK_def] at he
   cases hi:iterE (fun r h=>evK env E (compCode Γ.P Γ.md mu top n c) Res r h fun e r h=>some (e,r,h)) r H with
   | none=>rw [hi] at he; cases he
   | some x=>
     rw [hi] at he; simp only [Option.bind_some] at he
     obtain ⟨e,r',H'⟩:=x
     obtain ⟨m,hm⟩:=lim_some hi
     refine wpIn_loopN (fun m a w=>∃ κ r H,iterN m (fun r h=>evK env E (compCode Γ.P Γ.md mu top n c) Res r h fun e r h=>some (e,r,h)) r H=some (e,r',H')∧Conf Γ base sz n κ H w r a∧Grow κ0 Hs w0 κ H w)
      ⟨m,κ,r,H,hm,hcf,hg⟩ (fun a w ⟨_,_,_,h,_⟩=>by cases h) fun m a1 w1 ⟨κ1,r1,H1,h1,h2,h3⟩=>?_
     simp only [iterN] at h1
     obtain ⟨x,h4,h5⟩:=some_bind h1
     refine ih top ro htop h4 h2 h3 hsz fun e2 r2 H2 κ2 a2 w2 h6 h7 h8=>?_
     injection h6 with h6
     subst h6
     cases e2 with
     | normal=>exact ⟨κ2,r2,H2,h5,h7,h8⟩
     | exit id=>
       injection h5 with h5; injection h5 with e1 h5; injection h5 with e2 e3
       subst e1; subst e2; subst e3
       exact hQ (.exit id) _ _ κ2 a2 w2 he h7 h8
     | ret=>
       injection h5 with h5; injection h5 with e1 h5; injection h5 with e2 e3
       subst e1; subst e2; subst e3
       exact hQ .ret _ _ κ2 a2 w2 he h7 h8
 | rangeFunc f ps asg bo=>
   intro top ro htop R κ0 κ Hs H w0 w r a k y Q he hcf hg hsz hQ
   simp only [compCode] at he
   split at he
   ·rename_i f' hf
    cases hb:(top&&ps.toList.all fun t=>Nat.blt t n) with
    | false=>rw [hb] at he; exact (evOps_bad he).elim
    | true=>
      rw [hb] at he
      simp only [cond_true,evK_skip,evK_ops,bB,evK_seq,bA,bn,bC,b8,evK_exit,evK_ret] at he
      rw [Bool.and_eq_true] at hb
      have hro:=htop hb.1
      subst hro
      have hfv:=aJ hcf.regs hf
      have fin:∀ (g:FuncId) (as bs:List AV) (va vb:List Value),a.eval f = .func (.func g) va.toArray vb.toArray→VRels κ as va→VRels κ bs vb →
       callSK E (.fn g) (as ++ .yield H.length::bs) (H++[.loop ⟨.ready,r,ps.toList,compCode Γ.P Γ.md mu false n asg,compCode Γ.P Γ.md mu false n bo⟩]) (fun _ h2=>
        hgetK h2 H.length fun o=>match o with
        | .loop lo=>match lo.state with
          | .ready=>k .normal r (hset h2 H.length .dead)
          | .done e=>k e r (hset h2 H.length .dead)
          | .busy=>none
        | _=>none)=some y→(Code.rangeFunc f ps asg bo).wpIn (wideR none) 0 Γ.P Q a w:=by
       intro g as bs va vb hfe ha hb2 hcall
       obtain ⟨v,H2,hE1,hE2⟩:=callSK_inv hcall
       refine wpIn_rangeFunc fun fn _=>?_
       obtain ⟨L,hL⟩:∃ L:Loop,L={ state:=.ready,pending:=none,fn:=fn,tmps:=a.tmps,params:=ps,assign:=asg,body:=bo,defers:=w.heap.size }:=⟨_,rfl⟩
       obtain ⟨s1,g1⟩:=hcf.srel.allocOther (.deferred (some []))
       have hfr:=hcf.srel.fresh H.length (Nat.le_refl _)
       have hle:=κ.le_at (k:=w.heap.size+1) hfr.1
       have hsz1:(w.alloc (.deferred (some []))).heap.size=w.heap.size+1:=by simp
       have hlr:LoopRel Γ (κ.at H.length (w.heap.size+1)) ⟨.ready,r,ps.toList,compCode Γ.P Γ.md mu false n asg,compCode Γ.P Γ.md mu false n bo⟩ L:=by
        subst hL
        exact ⟨⟨rfl,rfl⟩,hcf.regs.mono hle,rfl,fun t ht=>Nat.lt_of_lt_of_le (all_blt hb.2 t ht) hcf.size,mu,n,hcf.size,rfl,rfl⟩
       obtain ⟨s2,g2⟩:=s1.turnNew (κ':=κ.at H.length (w.heap.size+1)) (.loop ⟨.ready,r,ps.toList,compCode Γ.P Γ.md mu false n asg,compCode Γ.P Γ.md mu false n bo⟩) (w.heap.size+1) (Same.alloc _ (.loop L)) hle (fun i hi=>by simp [K.at,hi]) (fun _ _=>rfl)
        (fun k hk=>heap_alloc_old _ _ k hk) (fun _ _ h=>.inl h) (by simp [place,K.at]) (by rw [hsz1]; exact Nat.le_refl _) ⟨L,by
          have:=heap_alloc_new (w.alloc (.deferred (some []))) (.loop L)
          rwa [hsz1] at this,hlr⟩
       have g12:=g1.trans g2
       have hargs:VRels (κ.at H.length (w.heap.size+1)) (as ++ .yield H.length::bs) (va++Value.func (.yield (w.heap.size+1)) #[] #[]::vb):=
        (ha.mono hle).append (.cons _ _ _ _ (.yield _ _ (K.at_same _ _ _)) (hb2.mono hle))
       have hfn:=hE.ok _ _ _ _ _ hE1
       have hD:((w.alloc (.deferred (some []))).alloc (.loop L)).heap[w.heap.size]? = some (.deferred (some [])):=by
        rw [heap_alloc_old _ _ _ (by rw [hsz1]; omega)]; exact heap_alloc_new w _
       have hmk:Marks sz (κ.at H.length (w.heap.size+1)) (H++[.loop ⟨.ready,r,ps.toList,compCode Γ.P Γ.md mu false n asg,compCode Γ.P Γ.md mu false n bo⟩]) ((w.alloc (.deferred (some []))).alloc (.loop L)) ({ target:=.collected w.heap.size,args := #[] }::a.defers):=by
        refine .cons w.heap.size a.defers (Nat.le_trans hsz hg.size) hD (fun id hp=>?_) (fun d hd e=>?_) (hcf.marks.grow g12)
        ·have hlt:=place_lt hcf.srel (id:=id) (k:=w.heap.size)
         by_cases hid:id=H.length
         ·rw [hid,ak] at hp
          simp [place,K.at] at hp
         ·have e:place (κ.at H.length (w.heap.size+1)) id (hget (H++[.loop ⟨.ready,r,ps.toList,compCode Γ.P Γ.md mu false n asg,compCode Γ.P Γ.md mu false n bo⟩]) id)=place κ id (hget (H++[.loop ⟨.ready,r,ps.toList,compCode Γ.P Γ.md mu false n asg,compCode Γ.P Γ.md mu false n bo⟩]) id):=by
           cases hget (H++[.loop ⟨.ready,r,ps.toList,compCode Γ.P Γ.md mu false n asg,compCode Γ.P Γ.md mu false n bo⟩]) id<;>simp [place,K.at,hid]
          rw [e] at hp
          rcases Nat.lt_or_ge id H.length with h | h
          ·rw [hget_append_lt h] at hp
           have:=hlt hp; omega
          ·rw [hget_ge (by simp; omega)] at hp; cases hp
        ·have:∀ {ds:List Deferred},Marks sz κ H w ds→∀ d∈ds,d.target ≠ .collected w.heap.size:=by
          intro ds hds
          induction hds with
          | nil=>intro d hd; cases hd
          | cons D ds _ h2 _ _ _ ih=>
            intro d hd e
            rcases List.mem_cons.1 hd with h | h
            ·subst h
             injection e with e
             have:=(Array.getElem?_eq_some_iff.1 h2).1
             omega
            ·exact ih d h e
         exact this hcf.marks d hd e
       refine ⟨w.heap.size+1,[{ target:=.collected w.heap.size,args := #[] }],(w.alloc (.deferred (some []))).alloc (.loop L),{ target:=.fn (.func g) vb.toArray,args:=va.toArray ++ #[Value.func (.yield (w.heap.size+1)) #[] #[]] },
        (w.alloc (.deferred (some []))).alloc (.loop L),g,(va++Value.func (.yield (w.heap.size+1)) #[] #[]::vb).toArray,(w.alloc (.deferred (some []))).alloc (.loop L),?_,?_,fun _ _=>trivial,?_,fun hd=>(by cases hd),?_⟩
       ·rw [hL]; exact run_enterLoop_outer fn a.tmps ps asg bo
       ·rw [resolve_func (x:=f) hfe]; simp [Act.eval]
       ·rw [invoke_func _ _ hfn]
        congr 2
        apply Array.ext'; simp
       ·refine (hE.fn _ _ _ _ _ hE1 base _ _ _ s2 hargs).mono fun e w3 hout=>?_
        cases e with
        | panicked _=>exact hout.elim
        | outgrown=>exact hout.elim
        | returned u=>
          obtain ⟨κ3,_,s3,g3⟩:=hout
          have hl3:κ3.loc H.length=some (w.heap.size+1):=g3.le.loc _ _ (K.at_same _ _ _)
          rw [bf] at hE2
          cases ho:hget H2 H.length with
          | loop lo=>
            rw [ho] at hE2; simp only at hE2
            obtain ⟨_,hob⟩:=s3.obj H.length (w.heap.size+1) (by rw [ho]; exact hl3)
            rw [ho] at hob
            obtain ⟨L3,hL3,hr3⟩:=hob
            obtain ⟨s4,g4⟩:=s3.loopTurn (L':={ L3 with state:=.exhausted }) (o:=.dead) hl3 ho hL3 (.inl rfl)
            have hendL:=fun hb=>run_endLoop (P:=Γ.P) hL3 hb
            generalize w3.putObj (w.heap.size+1) (.loop { L3 with state:=.exhausted })=w4 at s4 g4 hendL
            have gall:=(g12.trans g3).trans g4
            have hcf':Conf Γ base sz n κ3 (hset H2 H.length .dead) w4 r { a with defers:=[{ target:=.collected w.heap.size,args := #[] }]++a.defers }:=
             ⟨s4,hcf.regs.mono gall.le,hcf.size,hmk.grow (g3.trans g4)⟩
            have hst:=hr3.state
            cases hls:lo.state with
            | ready=>
              rw [hls] at hE2 hst; simp only at hE2
              obtain ⟨t1,t2⟩:=hst
              refine ⟨none,_,?_,hQ .normal r _ κ3 _ _ hE2 hcf' (hg.trans gall)⟩
              rw [hendL (by rw [t1]; simp),t2]
            | busy=>rw [hls] at hE2; cases hE2
            | done e=>
              rw [hls] at hE2 hst; simp only at hE2
              obtain ⟨t1,t2,t3⟩:=hst
              have hend:=hendL (by rw [t1]; simp)
              rw [t2] at hend
              cases e with
              | normal=>exact absurd rfl t3
              | exit id=>exact ⟨_,_,hend,wpIn_exit (hQ (.exit id) r _ κ3 _ _ hE2 hcf' (hg.trans gall))⟩
              | ret=>exact ⟨_,_,hend,wpIn_ret (hQ .ret r _ κ3 _ _ hE2 hcf' (hg.trans gall))⟩
          | _=>rw [ho] at hE2; cases hE2
      split at he
      ·rename_i g as bs hfm
       rw [hfm] at hfv
       generalize hx:a.eval f=vf at hfv
       cases hfv with
       | pv _ _ hfv=>cases hfv with
         | fn _ _ _ va vb h1 h2=>exact fin g _ _ va vb hx (VRels.of_pv h1) (VRels.of_pv h2) he
      ·rename_i g as bs hfm
       rw [hfm] at hfv
       generalize hx:a.eval f=vf at hfv
       cases hfv with
       | fn _ _ _ va vb h1 h2=>exact fin g _ _ va vb hx h1 h2 he
      ·cases he
   ·exact (evOps_bad he).elim
 | scope c ih=>
   intro top ro htop R κ0 κ Hs H w0 w r a k y Q he hcf hg hsz hQ
   simp only [compCode] at he
   refine wpIn_scope (ih top ro htop he hcf hg hsz fun e r' H' κ' a' w' h1 h2 h3=>?_)
   cases e with
   | normal=>exact hQ .normal r' H' κ' a' w' h1 h2 h3
   | ret=>exact hQ .ret r' H' κ' a' w' h1 h2 h3
   | exit j=>exact hQ (.exit j) r' H' κ' a' w' h1 h2 h3
 | label l=>
   intro top ro htop R κ0 κ Hs H w0 w r a k y Q he hcf hg hsz hQ
   exact wpIn_label (hQ .normal r H κ a w he hcf hg)
 | exit id=>
   intro top ro htop R κ0 κ Hs H w0 w r a k y Q he hcf hg hsz hQ
   exact wpIn_exit (hQ (.exit id) r H κ a w he hcf hg)
 | ret=>
   intro top ro htop R κ0 κ Hs H w0 w r a k y Q he hcf hg hsz hQ
   exact wpIn_ret (hQ .ret r H κ a w he hcf hg)
 | _=>
   intro top ro htop R κ0 κ Hs H w0 w r a k y Q he hcf hg hsz hQ
   exact (evOps_bad he).elim
end
end Go.VM
namespace Go.VM
open Go
section
variable {Γ:Ctx}
def FnComp (Γ:Ctx) (f:FuncId) (vf:VFunc):Prop:=
 ∃ fn c mu,Γ.P.funcs[f]? = some fn∧fn.body=some c∧(fn.name == "runtime.NumGoroutine")=false∧vf.code=compCode Γ.P Γ.md mu true fn.ntmps c∧compRess Γ.P fn.results.toList=some vf.results
structure EnvOK (Γ:Ctx) (env:Env):Prop where
 md:env.md=Γ.md
 mixed:Γ.P.follows .mixedOrders=true
 ft:∀ f vf,env.ft f=some vf→FnComp Γ f vf
 pr:∀ f g,env.pr f=some g→FnOK Γ.P f ∧ ∀ ps p,g ps=some p→∀ base κ H w vs,SRel Γ base κ H w→PRels κ.imm ps vs→CallsIn Fence.wide 0 Γ.P f vs.toArray w (Out Γ base κ H w (.pv p) H)
theorem SRel.shut {base:Nat} {κ:K} {H:Heap} {w:World} (h:SRel Γ base κ H w) {D:Nat} {ds:Option (List Deferred)} (hD:w.heap[D]? = some (.deferred ds)) (hn:∀ id,place κ id (hget H id)≠some D) (ds':Option (List Deferred)):SRel Γ base κ H (w.putObj D (.deferred ds')):=by
 refine ⟨fun a v hv=>?_,fun id k hk=>?_,h.inj,h.fresh,by simpa using h.base,h.gv,fun a ha=>⟨(h.gn a ha).1,?_⟩⟩
 ·have hne:a.block≠D:=fun e=>by
   have hc:=h.imm a v hv
   unfold World.cell? at hc
   rw [e,hD] at hc
   simp at hc
  exact (World.cell?_of_block (World.putObj_heap_other hne)).trans (h.imm a v hv)
 ·have hne:k≠D:=fun e=>hn id (by rw [←e]; exact hk)
  obtain ⟨g1,g2⟩:=h.obj id k hk
  exact ⟨g1,g2.mono κ.le_refl (World.putObj_heap_other hne) (fun _ _=>rfl) (fun _=>rfl)⟩
 ·obtain ⟨_,g2⟩:=h.gn a ha
  by_cases e:a.block=D
  ·unfold World.cell?
   have hlt:D<w.heap.size:=by
    rcases Nat.lt_or_ge D w.heap.size with h' | h'
    ·exact h'
    ·rw [Array.getElem?_eq_none h'] at hD; cases hD
   rw [e,World.putObj_heap_same hlt]
  ·exact (World.cell?_of_block (World.putObj_heap_other e)).trans g2
theorem Grow.shut {κ0 κ:K} {H0 H:Heap} {w0 w:World} (g:Grow κ0 H0 w0 κ H w) {D:Nat} (hD:w0.heap.size≤D) (o:Obj):Grow κ0 H0 w0 κ H (w.putObj D o):=
 ⟨g.le,by simpa using g.size,g.len,g.os,g.tape,g.output,fun k hk hn=>by rw [World.putObj_heap_other (by omega)]; exact g.frame k hk hn,g.places,g.imm,g.idle⟩
theorem Marks.shut {sz:Nat} {κ:K} {H:Heap} {w:World} {ds:List Deferred} (h:Marks sz κ H w ds) {D:Nat} (hne:∀ d∈ds,d.target ≠ .collected D) (o:Obj):Marks sz κ H (w.putObj D o) ds:=by
 induction h with
 | nil=>exact .nil
 | cons D' ds h1 h2 h3 h4 _ ih=>
   have:D'≠D:=fun e=>hne _ (List.mem_cons_self ..) (by rw [e])
   exact .cons D' ds h1 (by rw [World.putObj_heap_other this]; exact h2) h3 h4 (ih fun d hd=>hne d (List.mem_cons_of_mem _ hd))
theorem marks_leave {base sz:Nat} {κ0 κ:K} {H0 H:Heap} {w0:World} {fn:Func} {tmps:Array Value} {R:Ending→World→Prop} (hsz:w0.heap.size≤sz)
 (hend:∀ w',SRel Γ base κ H w'→Grow κ0 H0 w0 κ H w'→∃ v,(results fn tmps).run Γ.P w' = .ok v w'∧R (.returned v) w') :
 ∀ {ds:List Deferred} {w:World},Marks sz κ H w ds→SRel Γ base κ H w→Grow κ0 H0 w0 κ H w→LeavesInM Fence.wide 0 Γ.P fn tmps R ds .returning w:=by
 intro ds
 induction ds with
 | nil=>
   intro w _ hs hg
   obtain ⟨v,h1,h2⟩:=hend w hs hg
   exact ⟨v,h1,h2⟩
 | cons d ds ih=>
   intro w hm hs hg
   cases hm with
   | cons D _ h1 h2 h3 h4 h5=>
     refine ⟨by simp,.inl ⟨D,_,rfl,run_takeDeferred h2,?_⟩⟩
     exact ih (h5.shut h4 _) (hs.shut h2 h3 _) (hg.shut (Nat.le_trans hsz h1) _)
def fin {R:Type} (l:List AV) (F:AV→Option R):Option R:=match l with
 | [v]=>F v
 | l=>F (mkTup l)
theorem asAddr_of {p:AV} {v:Value} {κ:K} (h:VRel κ p v) (hp:(∃ id off,p = .ptr id off) ∨ ∃ cs off,p = .rptr cs off):∃ a,v = .pointer (some a):=by
 rcases hp with ⟨id,off,rfl⟩ | ⟨cs,off,rfl⟩
 ·exact ptr_val h
 ·exact rptr_val h
def resVal (tmps:Array Value):ResultVar→Sem Value
 | .tmp t=>pure (tmps.getD t undef)
 | .cell a t=>do loadVar t (←asAddr (tmps.getD a undef))
theorem results_eq (fn:Func) (tmps:Array Value):results fn tmps=(do let vs ←fn.results.mapM (resVal tmps); pure (if h:vs.size=1 then vs[0] else .tuple vs)):=by
 unfold results
 congr 1
theorem results_list {base:Nat} {κ:K} {H:Heap} {w:World} {r:Regs} {tmps:Array Value} (hs:SRel Γ base κ H w) (hr:∀ t,VRel κ (r t) (tmps.getD t undef)) {R:Type} {F:AV→Option R} {y:R} :
 ∀ (rs:List ResultVar) (vrs:List VResult) (acc:List AV),compRess Γ.P rs=some vrs→finishK vrs r H acc F=some y →
 ∃ vals vs,(rs.mapM (resVal tmps)).run Γ.P w = .ok vs w∧VRels κ vals vs∧fin (acc.reverse++vals) F=some y:=by
 intro rs
 induction rs with
 | nil=>
   intro vrs acc hc he
   simp [compRess] at hc; subst hc
   refine ⟨[],[],rfl,.nil,?_⟩
   simp only [finishK] at he
   rw [List.append_nil]
   split at he
   ·exact he
   ·rename_i hno
    unfold fin
    split
    ·rename_i v hv
     have:acc=[v]:=by rw [←List.reverse_reverse acc,hv]; rfl
     exact absurd this (hno v)
    ·exact he
 | cons x rs ih=>
   intro vrs acc hc he
   simp only [compRess] at hc
   split at hc
   ·rename_i a b h1 h2
    injection hc with hc; subst hc
    have step:∀ (v:AV) (u:Value),finishK b r H (v::acc) F=some y→VRel κ v u →
     (resVal tmps x).run Γ.P w = .ok u w →
     ∃ vals vs,((x::rs).mapM (resVal tmps)).run Γ.P w = .ok vs w∧VRels κ vals vs∧fin (acc.reverse++vals) F=some y:=by
     intro v u hf hv hrun
     obtain ⟨vals,vs,g1,g2,g3⟩:=ih b (v::acc) h2 hf
     refine ⟨v::vals,u::vs,?_,.cons _ _ _ _ hv g2,by simpa using g3⟩
     rw [List.mapM_cons]
     simp only [Sem.run_bind]
     rw [hrun]
     simp only [Result.andThen_ok,g1,Sem.run_pure]
    cases x with
    | tmp t=>
      simp [compRes] at h1; subst h1
      simp only [finishK] at he
      exact step _ _ he (hr t) rfl
    | cell t ty=>
      simp only [compRes] at h1
      split at h1
      ·rename_i n g hn hg
       injection h1 with h1; subst h1
       have hld:∀ (u:Value),(∃ a,tmps.getD t undef = .pointer (some a))→(Instr.loadAt ty (tmps.getD t undef)).run Γ.P w = .ok u w→((do loadVar ty (←asAddr (tmps.getD t undef))):Sem Value).run Γ.P w = .ok u w:=by
        rintro u ⟨a,ha⟩ hl
        rw [ha] at hl ⊢
        simpa [Instr.loadAt,Instr.sureAddr,asAddr] using hl
       cases g with
       | true=>
         simp only [cond_true,finishK] at he
         have e:(loadNK n (r t) H some).bind (fun v=>finishK b r H (v::acc) F)=some y:=by rw [loadNK_bind]; exact he
         obtain ⟨v,h3,h4⟩:=some_bind e
         obtain ⟨u,h5,h6⟩:=loadN_rel hs (hr t) h3 hg hn
         refine step v u h4 h6 (hld u (asAddr_of (hr t) ?_) h5)
         cases hp:r t<;>rw [hp] at h3<;>first | exact .inl ⟨_,_,rfl⟩ | exact .inr ⟨_,_,rfl⟩ | (cases h3; done)
       | false=>
         simp only [cond_false,finishK] at he
         have e:(load1K (r t) H some).bind (fun v=>finishK b r H (v::acc) F)=some y:=by rw [load1K_bind]; exact he
         obtain ⟨v,h3,h4⟩:=some_bind e
         obtain ⟨u,h5,h6⟩:=load1_rel hs (hr t) h3 hg
         refine step v u h4 h6 (hld u (asAddr_of (hr t) ?_) h5)
         cases hp:r t<;>rw [hp] at h3<;>first | exact .inl ⟨_,_,rfl⟩ | exact .inr ⟨_,_,rfl⟩ | (cases h3; done)
      ·cases h1
   ·cases hc
theorem results_rel {base:Nat} {κ:K} {H:Heap} {w:World} {r:Regs} {tmps:Array Value} (hs:SRel Γ base κ H w) (hr:∀ t,VRel κ (r t) (tmps.getD t undef)) {R:Type} {F:AV→Option R} {y:R} {fn:Func} {vrs:List VResult}
 (hc:compRess Γ.P fn.results.toList=some vrs) (he:finishK vrs r H [] F=some y):∃ v u,(results fn tmps).run Γ.P w = .ok u w∧VRel κ v u∧F v=some y:=by
 obtain ⟨vals,vs,h1,h2,h3⟩:=results_list hs hr fn.results.toList vrs [] hc he
 have hrun:(results fn tmps).run Γ.P w = .ok (if h:vs.toArray.size=1 then vs.toArray[0] else .tuple vs.toArray) w:=by
  rw [results_eq,Array.mapM_eq_mapM_toList]
  simp only [Sem.run_bind,Sem.run_map]
  rw [h1]
  simp only [Result.andThen_ok,Sem.run_pure]
 rw [List.reverse_nil,List.nil_append] at h3
 unfold fin at h3
 split at h3
 ·rename_i v
  cases h2 with
  | cons _ u _ _ g1 g2=>
    cases g2
    exact ⟨v,u,by rw [hrun]; simp,g1,h3⟩
 ·rename_i hno
  refine ⟨mkTup vals,.tuple vs.toArray,?_,mkTup_rel h2,h3⟩
  rw [hrun,dif_neg]
  intro hsz
  have hl:=h2.length
  simp only [List.size_toArray] at hsz
  match vals,hl with
  | [v],_=>exact hno v rfl
  | [],hl=>simp at hl; omega
  | _::_::_,hl=>simp at hl; omega
theorem initRegs_rel {κ:K} {args:List AV} {vs:List Value} (h:VRels κ args vs) (m:Nat):∀ t,VRel κ (initRegs args t) ((vs.toArray++Array.replicate m undef).getD t undef):=by
 intro t
 simp only [initRegs,lget_eq]
 have hl:=h.length
 rw [Array.getD_eq_getD_getElem?]
 cases ha:args[t]? with
 | some p=>
   obtain ⟨v,hv,hr⟩:=h.get (i:=t) (p:=p) (by rw [lget_eq]; exact ha)
   have:(vs.toArray++Array.replicate m undef)[t]? = some v:=by
    rw [Array.getElem?_append_left (by simpa using (List.getElem?_eq_some_iff.1 hv).1)]
    simpa using hv
   rw [this]
   exact hr
 | none=>
   have:((vs.toArray++Array.replicate m undef)[t]?).getD undef=undef:=by
    have hge:vs.length≤t:=by rw [←hl]; exact List.getElem?_eq_none_iff.1 ha
    rw [Array.getElem?_append_right (by simpa using hge)]
    simp only [Array.getElem?_replicate]
    split<;>rfl
   rw [this]
   exact undefV_rel κ
theorem fn_sound {env:Env} {E:Orc} (hE:OrcOK Γ E) (hV:EnvOK Γ env) {f:FuncId} {args:List AV} {H:Heap} {v:AV} {H':Heap} (he:evTgtK env E (.fn f) args H (fun v h=>some (v,h))=some (v,H')) :
 FnOK Γ.P f ∧ ∀ base κ w vs,SRel Γ base κ H w→VRels κ args vs→CallsIn Fence.wide 0 Γ.P f vs.toArray w (Out Γ base κ H w v H'):=by
 simp only [evTgtK] at he
 cases hf:env.ft f with
 | none=>
   rw [hf] at he; simp only at he
   cases hp:env.pr f with
   | none=>rw [hp] at he; cases he
   | some g=>
     rw [hp] at he; simp only at he
     cases ha:allPV args with
     | none=>rw [ha] at he; cases he
     | some ps=>
       rw [ha] at he; simp only [bindK_def] at he
       cases hg:g ps with
       | none=>rw [hg] at he; cases he
       | some p=>
         rw [hg] at he
         injection he with he; injection he with e1 e2; subst e1; subst e2
         obtain ⟨h1,h2⟩:=hV.pr f g hp
         refine ⟨h1,fun base κ w vs hs hr=>h2 ps p hg base κ H w vs hs ?_⟩
         rw [allPV_eq ha] at hr
         exact VRels.to_pv hr
 | some vf=>
   rw [hf] at he; simp only at he
   obtain ⟨fn,c,mu,h1,h2,h3,h4,h5⟩:=hV.ft f vf hf
   refine ⟨⟨fn,h1,by simp [h2],h3⟩,fun base κ w vs hs ha=>?_⟩
   rw [h4] at he
   refine callsIn_of_wp_marks h1 h2 trivial ?_
   have hcf:Conf Γ base w.heap.size fn.ntmps κ H w (initRegs args) { tmps:=vs.toArray++Array.replicate (fn.ntmps-vs.toArray.size) undef,defers:=[] }:=
    ⟨hs,fun t=>initRegs_rel ha _ t,by simp; omega,.nil⟩
   refine code_sound hE hV.mixed hV.md c true none (fun _=>rfl) he hcf (Grow.refl _ _ _) (Nat.le_refl _) fun e r' H1 κ1 a1 w1 hk hcf1 hg1=>?_
   have leave:finishK vf.results r' H1 [] (fun v=>some (v,H1))=some (v,H')→LeavesInM Fence.wide 0 Γ.P fn a1.tmps (Out Γ base κ H w v H') a1.defers .returning w1:=by
    intro hfin
    refine marks_leave (Nat.le_refl _) (fun w' hs' hg'=>?_) hcf1.marks hcf1.srel hg1
    obtain ⟨v1,u,g1,g2,g3⟩:=results_rel hs' hcf1.regs h5 hfin
    injection g3 with g3; injection g3 with e1 e2; subst e1; subst e2
    exact ⟨u,g1,κ1,g2,hs',hg'⟩
   cases e with
   | exit id=>cases hk
   | normal=>exact leave hk
   | ret=>exact leave hk
end
end Go.VM
namespace Go.VM
open Go
section
variable {Γ:Ctx}
theorem updL_rel {κ:K}:∀ {ps:List Nat} {args:List AV} {vs:List Value} {r:Regs} {tmps:Array Value},VRels κ args vs→(∀ t,VRel κ (r t) (tmps.getD t undef))→(∀ p∈ps,p<tmps.size) →
 (∀ t,VRel κ (updL r ps args t) (((ps.zip vs).foldl (fun t (p,v)=>t.setIfInBounds p v) tmps).getD t undef))∧((ps.zip vs).foldl (fun t (p,v)=>t.setIfInBounds p v) tmps).size=tmps.size:=by
 intro ps
 induction ps with
 | nil=>intro args vs r tmps _ hr _; exact ⟨fun t=>by cases args<;>exact hr t,rfl⟩
 | cons p ps ih=>
   intro args vs r tmps ha hr hb
   cases ha with
   | nil=>exact ⟨fun t=>hr t,rfl⟩
   | cons x v as vs hx ha=>
     have hp:=hb p (by simp)
     have hstep:∀ t,VRel κ (upd r p x t) ((tmps.setIfInBounds p v).getD t undef):=by
      have:=RRel.put (a:={ tmps:=tmps,defers:=[] }) (n:=tmps.size) (κ:=κ) (r:=r) hr (Nat.le_refl _) (d:=some p) (Nat.ble_eq_true_of_le hp) hx
      exact this
     have:=ih (r:=upd r p x) (tmps:=tmps.setIfInBounds p v) ha hstep (fun q hq=>by simpa using hb q (by simp [hq]))
     simp only [updL,List.zip_cons_cons,List.foldl_cons]
     exact ⟨this.1,by rw [this.2]; simp⟩
theorem zip_foldl (ps:Array Tmp) (vs:List Value) (tmps:Array Value):(ps.zip vs.toArray).foldl (fun tmps (t,a)=>tmps.setIfInBounds t a) tmps=(ps.toList.zip vs).foldl (fun t (p,v)=>t.setIfInBounds p v) tmps:=by
 rw [←Array.foldl_toList]
 congr 1
 simp [Array.toList_zip]
theorem yield_sound {env:Env} {E:Orc} (hE:OrcOK Γ E) (hV:EnvOK Γ env) {id:Nat} {args:List AV} {H:Heap} {v:AV} {H':Heap} (he:evTgtK env E (.yield id) args H (fun v h=>some (v,h))=some (v,H')) :
 ∀ base κ w vs l,SRel Γ base κ H w→VRels κ args vs→κ.loc id=some l →
 ∃ f tmps asg body,(Instr.yield l vs.toArray).run Γ.P w = .ok (.round l f tmps asg body) w∧RoundIn Fence.wide 0 Γ.P l f tmps asg body w (Out Γ base κ H w v H'):=by
 intro base κ w vs l hs ha hl
 simp only [evTgtK,bf] at he
 cases ho:hget H id with
 | loop lo=>
   rw [ho] at he; simp only at he
   cases hst:lo.state with
   | ready=>
     rw [hst] at he; simp only at he
     cases hb:Nat.beq args.length lo.params.length with
     | false=>rw [hb] at he; cases he
     | true=>
       rw [hb] at he; simp only [cond_true] at he
       obtain ⟨_,hob⟩:=hs.obj id l (by rw [ho]; exact hl)
       rw [ho] at hob
       obtain ⟨L,hL,hr⟩:=hob
       obtain ⟨mu,n,hn,hca,hcb⟩:=hr.code
       have hlen:=Nat.eq_of_beq_eq_true hb
       have hargs:vs.toArray.size=L.params.size:=by
        have h1:=ha.length
        have h2:lo.params.length=L.params.size:=by rw [hr.params]; simp
        simp; omega
       refine ⟨L.fn,_,L.assign,L.body,run_yield hL hargs,?_⟩
       rw [zip_foldl]
       obtain ⟨u1,u2⟩:=updL_rel (ps:=L.params.toList) ha hr.regs (by rw [←hr.params]; exact hr.bound)
       rw [hca,hcb] at he
       have hcf:Conf Γ base 0 n κ H w (updL lo.regs lo.params args) { tmps:=(L.params.toList.zip vs).foldl (fun t (p,v)=>t.setIfInBounds p v) L.tmps,defers:=[] }:=
        ⟨hs,fun t=>by rw [hr.params]; exact u1 t,by simp only [u2]; exact hn,.nil⟩
       refine roundIn_of_wpIn trivial ?_
       refine code_sound hE hV.mixed hV.md L.assign false (some l) (fun h=>by cases h) he hcf (Grow.refl _ _ _) (Nat.zero_le _) fun e r1 H1 κ1 a1 w1 hk hcf1 hg1=>?_
       cases e with
       | exit _=>cases hk
       | ret=>cases hk
       | normal=>
         simp only at hk
         have hl1:=hg1.le.loc _ _ hl
         cases ho1:hget H1 id with
         | loop lo1=>
           rw [ho1] at hk; simp only at hk
           cases hst1:lo1.state with
           | ready=>
             rw [hst1] at hk; simp only at hk
             obtain ⟨_,hob1⟩:=hcf1.srel.obj id l (by rw [ho1]; exact hl1)
             rw [ho1] at hob1
             obtain ⟨L1,hL1,hr1⟩:=hob1
             have hs1:=hr1.state
             rw [hst1] at hs1
             obtain ⟨s2,g2⟩:=hcf1.srel.loopTurn (L':={ L1 with state:=.busy }) (o:=.loop { lo1 with state:=.busy }) hl1 ho1 hL1 (.inr ⟨_,rfl,⟨rfl,hr1.regs,hr1.params,hr1.bound,hr1.code⟩⟩)
             refine ⟨_,run_beginRound hL1 hs1.1,?_⟩
             have hcf2:Conf Γ base 0 n κ1 (hset H1 id (.loop { lo1 with state:=.busy })) (w1.putObj l (.loop { L1 with state:=.busy })) r1 a1:=⟨s2,hcf1.regs,hcf1.size,hcf1.marks.grow g2⟩
             refine code_sound hE hV.mixed hV.md L.body false (some l) (fun h=>by cases h) hk hcf2 (hg1.trans g2) (Nat.zero_le _) fun e r3 H3 κ3 a3 w3 hk3 hcf3 hg3=>?_
             have hl3:=hg3.le.loc _ _ hl
             cases ho3:hget H3 id with
             | loop lo3=>
               rw [ho3] at hk3; simp only at hk3
               cases hst3:lo3.state with
               | busy=>
                 rw [hst3] at hk3; simp only at hk3
                 injection hk3 with hk3; injection hk3 with e1 e2; subst e1; subst e2
                 obtain ⟨_,hob3⟩:=hcf3.srel.obj id l (by rw [ho3]; exact hl3)
                 rw [ho3] at hob3
                 obtain ⟨L3,hL3,hr3⟩:=hob3
                 have turn:∀ (jump:Option Code) (st:LState),StateRel st (if jump.isNone then .ready else .done) jump →
                  SRel Γ base κ3 (hset H3 id (.loop { lo3 with state:=st })) (w3.putObj l (.loop { L3 with state:=if jump.isNone then .ready else .done,pending:=jump })) ∧
                  Grow κ3 H3 w3 κ3 (hset H3 id (.loop { lo3 with state:=st })) (w3.putObj l (.loop { L3 with state:=if jump.isNone then .ready else .done,pending:=jump })):=by
                  intro jump st hst
                  exact hcf3.srel.loopTurn (o:=.loop { lo3 with state:=st }) hl3 ho3 hL3 (.inr ⟨_,rfl,⟨hst,hr3.regs,hr3.params,hr3.bound,hr3.code⟩⟩)
                 cases e with
                 | normal=>
                   obtain ⟨s4,g4⟩:=turn none .ready ⟨rfl,rfl⟩
                   exact ⟨_,_,run_endRound none hL3,κ3,.pv _ _ (.bool _),s4,hg3.trans g4⟩
                 | exit j=>
                   obtain ⟨s4,g4⟩:=turn (some (.exit j)) (.done (.exit j)) ⟨rfl,rfl,by simp⟩
                   exact ⟨_,_,run_endRound (some (.exit j)) hL3,κ3,.pv _ _ (.bool _),s4,hg3.trans g4⟩
                 | ret=>
                   obtain ⟨s4,g4⟩:=turn (some .ret) (.done .ret) ⟨rfl,rfl,by simp⟩
                   exact ⟨_,_,run_endRound (some .ret) hL3,κ3,.pv _ _ (.bool _),s4,hg3.trans g4⟩
               | ready=>rw [hst3] at hk3; cases hk3
               | done _=>rw [hst3] at hk3; cases hk3
             | _=>rw [ho3] at hk3; cases hk3
           | busy=>rw [hst1] at hk; cases hk
           | done _=>rw [hst1] at hk; cases hk
         | _=>rw [ho1] at hk; cases hk
   | busy=>rw [hst] at he; cases he
   | done _=>rw [hst] at he; cases he
 | _=>rw [ho] at he; cases he
theorem evN_ok {env:Env} (hV:EnvOK Γ env):∀ n,OrcOK Γ (evN env n):=by
 intro n
 induction n with
 | zero=>exact ⟨fun _ _ _ _ _ h=>(by cases h),fun _ _ _ _ _ h=>(by cases h),fun _ _ _ _ _ h=>(by cases h)⟩
 | succ n ih=>
   exact ⟨fun f args H v H' h=>(fn_sound ih hV h).1,fun f args H v H' h=>(fn_sound ih hV h).2,fun id args H v H' h=>yield_sound ih hV h⟩
theorem EE_ok {env:Env} (hV:EnvOK Γ env):OrcOK Γ (EE env):=by
 have get:∀ {t args H x},EE env t args H=some x→∃ n,evN env n t args H=some x:=fun h=>lim_some h
 refine ⟨fun f args H v H' h=>?_,fun f args H v H' h=>?_,fun id args H v H' h=>?_⟩
 ·obtain ⟨n,hn⟩:=get h; exact (evN_ok hV n).ok _ _ _ _ _ hn
 ·obtain ⟨n,hn⟩:=get h; exact (evN_ok hV n).fn _ _ _ _ _ hn
 ·obtain ⟨n,hn⟩:=get h; exact (evN_ok hV n).yield _ _ _ _ _ hn
end
end Go.VM
namespace Go.VM
open Go
def Conv {α:Type} (x:Option α) (xs:Nat→Option α):Prop:=∀ y,x=some y→∃ n,∀ m,n≤m→xs m=some y
section
variable {R:Type} {env:Env} {E:Orc} {Es:Nat→Orc}
theorem Conv.const {α:Type} (x:Option α):Conv x (fun _=>x):=fun _ h=>⟨0,fun _ _=>h⟩
theorem operK_pair_conv (hE:∀ t args h,Conv (E t args h) (fun m=>Es m t args h)) (o:VOp) (r:Regs) (h:Heap):Conv (operK env E o r h fun v h=>some (v,h)) (fun m=>operK env (Es m) o r h fun v h=>some (v,h)):=by
 have sk:∀ {S:Type} (t:Tgt) (args:List AV) (h:Heap) (F:AV→Heap→Option S),Conv (callSK E t args h F) (fun m=>callSK (Es m) t args h F):=by
  intro S t args h F y hy
  simp only [callSK_def] at hy ⊢
  obtain ⟨p,h1,h2⟩:=some_bind hy
  obtain ⟨n,hn⟩:=hE t args h p h1
  try dsimp only at hn
  exact ⟨n,fun m hm=>by rw [hn m hm]; exact h2⟩
 have pk:∀ {S:Type} (f:FuncId) (ps:List PV) (F:PV→Option S),Conv (callPK E f ps F) (fun m=>callPK (Es m) f ps F):=by
  intro S f ps F y hy
  simp only [callPK_def,EP] at hy ⊢
  obtain ⟨p,h1,h2⟩:=some_bind hy
  obtain ⟨q,h3,h4⟩:=some_bind h1
  obtain ⟨n,hn⟩:=hE _ _ _ q h3
  try dsimp only at hn
  exact ⟨n,fun m hm=>by rw [hn m hm]; simp only [Option.bind_some]; rw [h4]; exact h2⟩
 have lk:∀ (l:List AV) (F:List PV→Option (AV × Heap)) (Fs:Nat→List PV→Option (AV × Heap)),(∀ ps,Conv (F ps) (fun m=>Fs m ps))→Conv (lendsK h l F) (fun m=>lendsK h l (Fs m)):=by
  intro l
  induction l with
  | nil=>intro F Fs hF; exact hF []
  | cons a l ih=>
    intro F Fs hF
    simp only [lendsK]
    split
    ·exact ih _ _ fun ps=>hF _
    ·split
     ·rename_i es id off len cap _
      simp only [bf]
      split
      ·rename_i cs _
       simp only [secK_def]
       cases Nat.ble (off+len*es) cs.length
       ·exact Conv.const _
       ·exact ih _ _ fun ps=>hF _
      ·exact Conv.const _
     ·exact Conv.const _
 have ck:∀ (env:Env) (t:Tgt) (args:List AV),Conv (callK env E t args h fun v h=>some (v,h)) (fun m=>callK env (Es m) t args h fun v h=>some (v,h)):=by
  intro env t args
  cases t with
  | yield id=>exact sk _ _ _ _
  | fn f=>
    simp only [callK]
    split
    ·exact sk _ _ _ _
    ·split
     ·exact pk _ _ _
     ·exact Conv.const _
    ·split
     ·exact sk _ _ _ _
     ·exact Conv.const _
    ·split
     ·exact sk _ _ _ _
     ·exact Conv.const _
    ·exact lk _ _ _ fun ps=>sk _ _ _ _
 cases o
 case call m f xs=>
  simp only [operK]
  exact ck _ _ _
 case callV f xs=>
  simp only [operK]
  split
  ·exact ck _ _ _
  ·exact ck _ _ _
  ·exact sk _ _ _ _
  ·exact Conv.const _
 all_goals exact Conv.const _
theorem operK_split (env:Env) (E:Orc) (o:VOp) (r:Regs) (h:Heap) (F:AV→Heap→Option R):operK env E o r h F=(operK env E o r h fun v h=>some (v,h)).bind fun p=>F p.1 p.2:=by rw [operK_bind]; rfl
theorem operK_conv (hE:∀ t args h,Conv (E t args h) (fun m=>Es m t args h)) {o:VOp} {r:Regs} {h:Heap} {F:AV→Heap→Option R} {Fs:Nat→AV→Heap→Option R} (hF:∀ v h,Conv (F v h) (fun m=>Fs m v h)) :
 Conv (operK env E o r h F) (fun m=>operK env (Es m) o r h (Fs m)):=by
 intro y hy
 obtain ⟨v,h',h1,h2⟩:=operK_inv hy
 obtain ⟨n,hn⟩:=operK_pair_conv hE o r h _ h1
 try dsimp only at hn
 obtain ⟨n',hn'⟩:=hF v h' y h2
 try dsimp only at hn'
 refine ⟨max n n',fun m hm=>?_⟩
 show operK env (Es m) o r h (Fs m)=some y
 rw [operK_split,hn m (by omega)]
 exact hn' m (by omega)
theorem evOps_conv (hE:∀ t args h,Conv (E t args h) (fun m=>Es m t args h)):∀ (l:List VOper) (r:Regs) (h:Heap) (k:Regs→Heap→Option R) (ks:Nat→Regs→Heap→Option R),(∀ r h,Conv (k r h) (fun m=>ks m r h)) →
 Conv (evOps env E l r h k) (fun m=>evOps env (Es m) l r h (ks m)):=by
 intro l
 induction l with
 | nil=>intro r h k ks hk; exact hk r h
 | cons o l ih=>
   intro r h k ks hk
   simp only [evOps_nil,evOps_cons]
   cases wantedV r o.guard with
   | true=>
     simp only [cond_true]
     refine operK_conv hE fun v h=>?_
     simp only [forceK_def,putK_def]
     exact ih _ _ _ _ hk
   | false=>
     simp only [cond_false,putK_def]
     exact ih _ _ _ _ hk
theorem evDraw_conv (hE:∀ t args h,Conv (E t args h) (fun m=>Es m t args h)) (pairs:List (Nat × Nat)):∀ (l:List VOper) (i:Nat) (r:Regs) (h:Heap) (ls:List (Nat × AV × Option Nat)) (es:List (Nat × Heap × Heap)) (k:Regs→Heap→List (Nat × AV × Option Nat)→List (Nat × Heap × Heap)→Option R) (ks:Nat→Regs→Heap→List (Nat × AV × Option Nat)→List (Nat × Heap × Heap)→Option R),
 (∀ r h ls es,Conv (k r h ls es) (fun m=>ks m r h ls es))→Conv (evDraw env E pairs l i r h ls es k) (fun m=>evDraw env (Es m) pairs l i r h ls es (ks m)):=by
 intro l
 induction l with
 | nil=>intro i r h ls es k ks hk; exact hk r h ls es
 | cons o l ih=>
   intro i r h ls es k ks hk
   simp only [evDraw_nil,evDraw_cons]
   cases wantedV r o.guard with
   | true=>
     simp only [cond_true]
     refine operK_conv hE fun v h'=>?_
     simp only [forceK_def,putK_def]
     exact ih _ _ _ _ _ _ _ hk
   | false=>
     simp only [cond_false,putK_def]
     exact ih _ _ _ _ _ _ _ hk
theorem checkBox_conv (ls:List (Nat × AV × Option Nat)) {x:Option R} {xs:Nat→Option R} (hx:Conv x xs):∀ l,Conv (checkBox ls l x) (fun m=>checkBox ls l (xs m)):=by
 intro l
 induction l with
 | nil=>exact hx
 | cons a l ih=>
   obtain ⟨i,p⟩:=a
   simp only [checkBox]
   split
   ·simp only [sameK_def]
    split
    ·exact ih
    ·exact Conv.const _
   ·exact Conv.const _
theorem conts_conv (hE:∀ t args h,Conv (E t args h) (fun m=>Es m t args h)):∀ (al:List (Nat × AlS)) (r:Regs) (h:Heap) (k:List (Nat × HSh × List PV)→List (Nat × PV)→Option R) (ks:Nat→List (Nat × HSh × List PV)→List (Nat × PV)→Option R),(∀ a zs,Conv (k a zs) (fun m=>ks m a zs)) →
 Conv (conts env E al r h k) (fun m=>conts env (Es m) al r h (ks m)):=by
 intro al
 induction al with
 | nil=>intro r h k ks hk; exact hk _ _
 | cons x al ih=>
   intro r h k ks hk
   obtain ⟨t,s⟩:=x
   cases s with
   | z z=>simp only [conts]; exact ih r h _ _ fun a zs=>hk _ _
   | m i pre es z v=>
     simp only [conts]
     refine evOps_conv hE pre r h _ _ fun r' h'=>?_
     split
     ·rename_i kd n _
      simp only [needK_def,bh]
      cases (decide (0≤n)&&decide (n≤1099511627776))
      ·exact Conv.const _
      ·exact ih r h _ _ fun a zs=>hk _ _
     ·exact Conv.const _
   | x i pre v=>
     simp only [conts]
     refine evOps_conv hE pre r h _ _ fun r' h'=>?_
     split
     ·split
      ·exact ih r h _ _ fun a zs=>hk _ _
      ·exact Conv.const _
     ·exact Conv.const _
theorem checkPairs_conv (ls:List (Nat × AV × Option Nat)) (es:List (Nat × Heap × Heap)) {x:Option R} {xs:Nat→Option R} (hx:Conv x xs):∀ l,Conv (checkPairs ls es l x) (fun m=>checkPairs ls es l (xs m)):=by
 intro l
 induction l with
 | nil=>exact hx
 | cons a l ih=>
   obtain ⟨a,b⟩:=a
   simp only [checkPairs]
   split
   ·split
    ·simp only [sameK_def]
     split
     ·exact ih
     ·exact Conv.const _
    ·exact ih
    ·exact Conv.const _
   ·exact ih
theorem iterN_mono (b:Regs→Heap→Option Res):∀ (n:Nat) (r:Regs) (h:Heap) (x:Res),iterN n b r h=some x→iterN (n+1) b r h=some x:=by
 intro n
 induction n with
 | zero=>intro r h x hx; cases hx
 | succ n ih=>
   intro r h x hx
   simp only [iterN] at hx ⊢
   obtain ⟨p,h1,h2⟩:=some_bind hx
   rw [h1]
   obtain ⟨e,r',h'⟩:=p
   cases e with
   | normal=>simpa [iterN] using ih r' h' x h2
   | exit id=>exact h2
   | ret=>exact h2
theorem iterE_intro {b:Regs→Heap→Option Res} {n:Nat} {r:Regs} {h:Heap} {x:Res} (hx:iterN n b r h=some x):iterE b r h=some x:=
 lim_eq (f:=fun n=>iterN n b r h) (fun n x hx=>iterN_mono b n r h x hx) hx
theorem iterE_conv {b:Regs→Heap→Option Res} {bs:Nat→Regs→Heap→Option Res} (hb:∀ r h,Conv (b r h) (fun m=>bs m r h)) (r:Regs) (h:Heap):Conv (iterE b r h) (fun m=>iterE (bs m) r h):=by
 intro x hx
 obtain ⟨n,hn⟩:=lim_some hx
 have key:∀ (n:Nat) (r:Regs) (h:Heap),iterN n b r h=some x→∃ N,∀ m,N≤m→iterN n (bs m) r h=some x:=by
  intro n
  induction n with
  | zero=>intro r h hx; cases hx
  | succ n ih=>
    intro r h hx
    simp only [iterN] at hx ⊢
    obtain ⟨p,h1,h2⟩:=some_bind hx
    obtain ⟨N,hN⟩:=hb r h p h1
    try dsimp only at hN
    obtain ⟨e,r',h'⟩:=p
    cases e with
    | normal=>
      obtain ⟨N',hN'⟩:=ih r' h' h2
      exact ⟨max N N',fun m hm=>by rw [hN m (by omega)]; exact hN' m (by omega)⟩
    | exit id=>exact ⟨N,fun m hm=>by rw [hN m hm]; exact h2⟩
    | ret=>exact ⟨N,fun m hm=>by rw [hN m hm]; exact h2⟩
 obtain ⟨N,hN⟩:=key n r h hn
 exact ⟨N,fun m hm=>iterE_intro (hN m hm)⟩
theorem evK_conv (hE:∀ t args h,Conv (E t args h) (fun m=>Es m t args h)):∀ (c:VCode) {R:Type} (r:Regs) (h:Heap) (k:Ex→Regs→Heap→Option R) (ks:Nat→Ex→Regs→Heap→Option R),(∀ e r h,Conv (k e r h) (fun m=>ks m e r h)) →
 Conv (evK env E c R r h k) (fun m=>evK env (Es m) c R r h (ks m)):=by
 intro c
 induction c with
 | skip=>intro R r h k ks hk; exact hk _ _ _
 | ops l=>intro R r h k ks hk; exact evOps_conv hE l r h _ _ fun r h=>hk .normal r h
 | draw al l pairs=>
   intro R r h k ks hk
   simp only [evK_skip,evK_ops,bB,evK_seq,bA,bn,bC,b8,evK_exit,evK_ret,hoist_eq]
   refine conts_conv hE al r h _ _ fun al zs=>?_
   exact evDraw_conv hE pairs l 0 _ _ _ _ _ _ fun r h ls es=>checkPairs_conv ls es (checkBox_conv ls (hk .normal r h) zs) pairs
 | seq a b iha ihb=>
   intro R r h k ks hk
   simp only [evK_skip,evK_ops,bB,evK_seq,bA,bn,bC,b8,evK_exit,evK_ret]
   refine iha r h _ _ fun e r h=>?_
   cases e with
   | normal=>exact ihb r h k ks hk
   | exit id=>exact hk _ _ _
   | ret=>exact hk _ _ _
 | cond c a b iha ihb=>
   intro R r h k ks hk
   simp only [evK_skip,evK_ops,bB,evK_seq,bA,bn,bC,b8,evK_exit,evK_ret]
   split
   ·rename_i b' _
    cases b' with
    | true=>exact iha r h k ks hk
    | false=>exact ihb r h k ks hk
   ·exact Conv.const _
 | block id c ih=>
   intro R r h k ks hk
   simp only [evK_skip,evK_ops,bB,evK_seq,bA,bn,bC,b8,evK_exit,evK_ret]
   refine ih r h _ _ fun e r h=>?_
   cases e with
   | exit j=>
     simp only
     cases Nat.beq j id with
     | true=>exact hk _ _ _
     | false=>exact hk _ _ _
   | normal=>exact hk _ _ _
   | ret=>exact hk _ _ _
 | loop c ih=>
   intro R r h k ks hk
   simp only [evK_skip,evK_ops,bB,evK_seq,bA,bn,bC,b8,evK_exit,evK_ret,loopK_def]
   intro y hy
   obtain ⟨x,h1,h2⟩:=some_bind hy
   obtain ⟨n,hn⟩:=iterE_conv (bs:=fun m r h=>evK env (Es m) c Res r h fun e r h=>some (e,r,h)) (fun r h=>ih r h _ _ fun e r h=>Conv.const _) r h x h1
   obtain ⟨n',hn'⟩:=hk _ _ _ y h2
   try dsimp only at hn'
   exact ⟨max n n',fun m hm=>by have h5:=hn m (by omega); dsimp only at h5 ⊢; rw [h5]; exact hn' m (by omega)⟩
 | rangeFunc f ps asg bo _ _=>
   intro R r h k ks hk
   have go:∀ (g:FuncId) (a b:List AV),Conv
    (callSK E (.fn g) (a ++ .yield h.length::b) (h++[.loop ⟨.ready,r,ps,asg,bo⟩]) fun _ h2=>hgetK h2 h.length fun o=>match o with
      | .loop lo=>match lo.state with
        | .ready=>k .normal r (hset h2 h.length .dead)
        | .done e=>k e r (hset h2 h.length .dead)
        | .busy=>none
      | _=>none)
    (fun m=>callSK (Es m) (.fn g) (a ++ .yield h.length::b) (h++[.loop ⟨.ready,r,ps,asg,bo⟩]) fun _ h2=>hgetK h2 h.length fun o=>match o with
      | .loop lo=>match lo.state with
        | .ready=>ks m .normal r (hset h2 h.length .dead)
        | .done e=>ks m e r (hset h2 h.length .dead)
        | .busy=>none
      | _=>none):=by
    intro g a b y hy
    obtain ⟨v,h2,h1,h3⟩:=callSK_inv hy
    obtain ⟨n,hn⟩:=hE _ _ _ _ h1
    try dsimp only at hn
    have hc:Conv (hgetK h2 h.length fun o=>match o with
     | .loop lo=>match lo.state with
       | .ready=>k .normal r (hset h2 h.length .dead)
       | .done e=>k e r (hset h2 h.length .dead)
       | .busy=>none
     | _=>none)
     (fun m=>hgetK h2 h.length fun o=>match o with
     | .loop lo=>match lo.state with
       | .ready=>ks m .normal r (hset h2 h.length .dead)
       | .done e=>ks m e r (hset h2 h.length .dead)
       | .busy=>none
     | _=>none):=by
     simp only [bf]
     split
     ·split
      ·exact hk _ _ _
      ·exact hk _ _ _
      ·exact Conv.const _
     ·exact Conv.const _
    obtain ⟨n',hn'⟩:=hc y h3
    try dsimp only at hn'
    exact ⟨max n n',fun m hm=>by dsimp only; rw [callSK_def,hn m (by omega)]; exact hn' m (by omega)⟩
   simp only [evK_skip,evK_ops,bB,evK_seq,bA,bn,bC,b8,evK_exit,evK_ret]
   split
   ·exact go _ _ _
   ·exact go _ _ _
   ·exact Conv.const _
 | exit id=>intro R r h k ks hk; exact hk _ _ _
 | ret=>intro R r h k ks hk; exact hk _ _ _
theorem evTgtK_conv (hE:∀ t args h,Conv (E t args h) (fun m=>Es m t args h)) (t:Tgt) (args:List AV) (h:Heap) (F:AV→Heap→Option R):Conv (evTgtK env E t args h F) (fun m=>evTgtK env (Es m) t args h F):=by
 cases t with
 | fn f=>
   simp only [evTgtK]
   split
   ·exact evK_conv hE _ _ _ _ _ fun e r h=>by cases e<;>exact Conv.const _
   ·split
    ·split
     ·exact Conv.const _
     ·exact Conv.const _
    ·exact Conv.const _
 | yield id=>
   simp only [evTgtK,bf]
   split
   ·split
    ·rename_i lo _ _ _
     cases Nat.beq args.length lo.params.length with
     | false=>exact Conv.const _
     | true=>
       simp only [cond_true]
       refine evK_conv hE _ _ _ _ _ fun e r h1=>?_
       cases e with
       | normal=>
         simp only
         split
         ·split
          ·exact evK_conv hE _ _ _ _ _ fun e _ h2=>Conv.const _
          ·exact Conv.const _
         ·exact Conv.const _
       | exit _=>exact Conv.const _
       | ret=>exact Conv.const _
    ·exact Conv.const _
   ·exact Conv.const _
theorem evN_mono (env:Env):∀ (n:Nat) (t:Tgt) (args:List AV) (h:Heap) (x:AV × Heap),evN env n t args h=some x→evN env (n+1) t args h=some x:=by
 intro n
 induction n with
 | zero=>intro t args h x hx; cases hx
 | succ n ih=>
   intro t args h x hx
   have hc:=evTgtK_conv (env:=env) (E:=evN env n) (Es:=fun _=>evN env (n+1)) (fun t args h y hy=>⟨0,fun _ _=>ih t args h y hy⟩) t args h (fun v h=>some (v,h)) x hx
   obtain ⟨N,hN⟩:=hc
   try dsimp only at hN
   exact hN N (Nat.le_refl _)
theorem evN_up (env:Env) {n m:Nat} (h:n≤m) {t:Tgt} {args:List AV} {H:Heap} {x:AV × Heap} (hx:evN env n t args H=some x):evN env m t args H=some x:=by
 induction h with
 | refl=>exact hx
 | step _ ih=>exact evN_mono env _ _ _ _ _ ih
theorem EE_conv (env:Env) (t:Tgt) (args:List AV) (h:Heap):Conv (EE env t args h) (fun m=>evN env m t args h):=by
 intro x hx
 obtain ⟨n,hn⟩:=lim_some hx
 exact ⟨n,fun m hm=>evN_up env hm hn⟩
theorem EE_intro {env:Env} {t:Tgt} {args:List AV} {h:Heap} {x:AV × Heap} (hx:evTgtK env (EE env) t args h (fun v h=>some (v,h))=some x):EE env t args h=some x:=by
 obtain ⟨n,hn⟩:=evTgtK_conv (Es:=fun m=>evN env m) (EE_conv env) t args h (fun v h=>some (v,h)) x hx
 try dsimp only at hn
 exact lim_eq (f:=fun n=>evN env n t args h) (fun n x hx=>evN_mono env n t args h x hx) (n:=n+1) (hn n (Nat.le_refl _))
end
end Go.VM
