/-
  Part 6 of the functions and the law.
  Right states, as the program tells it.
  Right states, as the document tells it.
  States that are the same.
  How much a state has to be looked at.
  Bytes of vectors, containers, entries, holds, states.
  The bytes of a right state, as the document has them.
  The bytes of a right state, as the program writes them.
-/
import Derived.Test.YtflfdglnelbbiaaGreatP5
set_option linter.all false
set_option linter.unusedVariables false
set_option linter.unusedSimpArgs false
set_option linter.unusedSectionVars false
namespace Go.Proofs.YtflfdglnelbbiaaGreat
open Go Go.VM
def okH (s:St) (i:Nat) (h:Ho):Prop:=holdP s h ∧ ∀ (g:Ho),0<i→s.hs[i-1]? = some g→ahead g.o h.o=true
def rightP (s:St):Prop:=(0≤s.next∧s.next≤1099511627776)∧s.es.length≤16∧entsP s ∧ ∀ (i:Nat) (h:Ho),s.hs[i]? = some h→okH s i h
noncomputable instance (s:St):Decidable (rightP s):=Classical.propDecidable _
theorem hs_get {l:List Ho} (h8:∀ h∈l,h.sp.length=8):∀ {i:Nat} {h:Ho},l[i]? = some h→((flat hoc l).drop (i*11)).take 11=hoc h∧i*11+11≤(flat hoc l).length:=by
 induction l with
 | nil=>intro i h e; simp at e
 | cons b l ih=>
   have hb:(hoc b).length=11:=hoc_len (h8 b (by simp))
   have ih:=@ih (fun h hh=>h8 h (by simp [hh]))
   intro i h e
   cases i with
   | zero=>
     simp at e; subst e
     refine ⟨?_,?_⟩
     ·show ((hoc b++flat hoc l).drop (0*11)).take 11=hoc b
      rw [Nat.zero_mul,List.drop_zero,List.take_append_of_le_length (by omega),List.take_of_length_le (by omega)]
     ·show _≤(hoc b++flat hoc l).length
      rw [List.length_append]; omega
   | succ i=>
     simp at e
     obtain ⟨h1,h2⟩:=ih e
     refine ⟨?_,?_⟩
     ·show ((hoc b++flat hoc l).drop ((i+1)*11)).take 11=hoc h
      have e:(i+1)*11=(hoc b).length+i*11:=by omega
      rw [e,List.drop_append,List.drop_of_length_le (by omega),List.nil_append,Nat.add_sub_cancel_left]
      exact h1
     ·show _≤(hoc b++flat hoc l).length
      rw [List.length_append]; omega
theorem hs_part {l:List Ho} (h8:∀ h∈l,h.sp.length=8) {i:Nat} {h:Ho} (hg:l[i]? = some h) {j n:Nat} (hjn:j+n≤11) :
 ((flat hoc l).drop (i*11+j)).take n=((hoc h).drop j).take n∧i*11+j+n≤(flat hoc l).length:=by
 obtain ⟨h1,h2⟩:=hs_get h8 hg
 refine ⟨?_,by omega⟩
 rw [←h1,List.drop_take,List.take_take,List.drop_drop]
 congr 1; omega
set_option maxHeartbeats 2000000 in
theorem right_ok' (s:St) (x y:Ext) (hs:smallS s):EP (EE env) 66 [.agg (stc s x y)]=some (.bool (decide (rightP s))):=by
 obtain ⟨hl,hl2,hE,h8⟩:=id hs
 rw [aS] at hl2
 refine Has.eq (aE ?_)
 (refine a8 _ rfl ?_)
 refine ab (v:=.int .i64 s.next) rfl ?_
 refine ah (fun q1=>?_) (fun q1=>?_)
 ·exact Has.intro (Has.intro (no fun h=>by have:=h.1; omega))
 (refine a8 _ rfl ?_)
 refine ab (v:=.int .i64 s.next) rfl ?_
 refine ah (fun q2=>?_) (fun q2=>?_)
 ·exact Has.intro (Has.intro (no fun h=>by have:=h.1; omega))
 (refine a8 _ rfl ?_)
 refine ab (v:=.sl x s.es.length (flat en s.es)) rfl ?_
 refine ah (fun q3=>?_) (fun q3=>?_)
 ·exact Has.intro (Has.intro (no fun h=>by have:=h.2.1; omega))
 (refine a8 _ rfl ?_)
 (refine ae (v:=stc s x y) rfl (of_decide_eq_true rfl) ?_)
 refine aI (ents_ok s x y hs (by omega)) (fun q4=>?_) (fun q4=>?_)
 rotate_left
 ·exact Has.intro (Has.intro (no fun h=>q4 h.2.2.1))
 (refine a8 _ rfl ?_)
 refine ab (v:=.sl y s.hs.length (flat hoc s.hs)) rfl ?_
 refine aw ?_
 refine aW (σ:=Nat) (fun i=>s.hs.length-i) (fun i=>[(1,.ptr 0 0),(25,.pv (.sl y s.hs.length (flat hoc s.hs))),(26,.pv (.int .i64 s.hs.length)),(27,.pv (.int .i64 i))]) (fun _=>[.pcells (stc s x y)])
  (fun i=>i≤s.hs.length ∧ ∀ (k:Nat) (h:Ho),k<i→s.hs[k]? = some h→okH s k h) (fun i ⟨hi,hA⟩ r J=>?_) 0 ⟨Nat.zero_le _,fun k h hk=>by omega⟩ [] ⟨rfl,rfl,rfl,rfl,trivial⟩ rfl
 refine ah (fun hc=>?_) (fun hc=>?_)
 ·have hlt:i<s.hs.length:=by omega
  obtain ⟨h,hg⟩:∃ c,s.hs[i]? = some c:=⟨_,List.getElem?_eq_getElem hlt⟩
  have hmem:h∈s.hs:=List.mem_of_getElem? hg
  obtain ⟨g1,g2⟩:=hs_get h8 hg
  have hh11:=hoc_len (h8 h hmem)
  refine aa (by (first | rfl | (simp; done) | (simp; omega))) ?_
  refine ae g1 g2 ?_
  refine af ?_
  refine aa (by rw [hh11]; rfl) ?_
  refine a9 (hoc h) (by simp [hh11]) ?_
  rw [aH]
  (refine a8 _ rfl ?_)
  (refine ae (v:=stc s x y) rfl (of_decide_eq_true rfl) ?_)
  refine af ?_
  refine ae (v:=hoc h) (by rw [List.drop_zero,List.take_of_length_le (by omega)]) (by rw [hh11]; decide) ?_
  refine aI (hold_ok s x y hs h (h8 h hmem)) (fun q5=>?_) (fun q5=>?_)
  rotate_left
  ·exact Has.intro (Has.intro (Has.intro (no fun hr=>q5 (hr.2.2.2 i h hg).1)))
  have next:okH s i h→i+1≤s.hs.length ∧ ∀ (k:Nat) (h:Ho),k<i+1→s.hs[k]? = some h→okH s k h:=fun ho=>⟨hlt,fun k f hk hf=>by
   by_cases ek:k=i
   ·subst ek; rw [hg] at hf; injection hf with hf; subst hf; exact ho
   ·exact hA k f (by omega) hf⟩
  refine ah (fun q6=>?_) (fun q6=>?_)
  ·have q6:0<i:=by omega
   obtain ⟨g,hgg⟩:∃ c,s.hs[i-1]? = some c:=⟨_,List.getElem?_eq_getElem (by omega)⟩
   (refine a8 _ rfl ?_)
   refine ab (v:=.sl y s.hs.length (flat hoc s.hs)) rfl ?_
   refine a9 ((i-1:Nat):Int) (by rw [wrap_i64 (by omega) (by omega)]; omega) ?_
   refine aa (by (first | rfl | (simp; done) | (simp; omega))) ?_
   obtain ⟨p1,p2⟩:=hs_part h8 hgg (j:=0) (n:=3) (by decide)
   refine ae (v:=ow g.o) (by rw [at_ij]; exact p1) (by rw [at_ij]; exact p2) ?_
   refine af ?_
   refine ae (v:=ow h.o) rfl (by rw [hh11]; decide) ?_
   refine aj (compare_ok g.o h.o) ?_
   refine ah (fun q7=>?_) (fun q7=>?_)
   ·refine Has.intro (Has.intro (Has.intro (no fun hr=>?_)))
    have:=(cmp_ahead g.o h.o).2 ((hr.2.2.2 i h hg).2 g q6 hgg)
    omega
   ·refine a9 _ (aq (by omega)) ?_
    refine Has.intro ⟨i+1,next ⟨q5,fun f _ hf=>?_⟩,by omega,⟨rfl,rfl,rfl,rfl,trivial⟩,_,List.append_assoc _ _ _⟩
    rw [hgg] at hf; injection hf with hf; subst hf
    exact (cmp_ahead g.o h.o).1 (by omega)
  ·refine a9 _ (aq (by omega)) ?_
   exact Has.intro ⟨i+1,next ⟨q5,fun f hf=>by omega⟩,by omega,⟨rfl,rfl,rfl,rfl,trivial⟩,_,List.append_assoc _ _ _⟩
 ·have:i=s.hs.length:=by omega
  subst this
  exact Has.intro (Has.intro (Has.intro (yes ⟨by omega,by omega,q4,fun k h hk=>hA k h (List.getElem?_eq_some_iff.1 hk).1 hk⟩)))
end Go.Proofs.YtflfdglnelbbiaaGreat
namespace Go.Proofs.YtflfdglnelbbiaaGreat
open Go Go.VM
theorem flatE10 {l:List En} {i:Nat} (h:i≤l.length):((flat en l).drop (mulE 0 10)).take (mulE (((i:Nat):Int).toNat-0) 10)=flat en (l.take i):=by
 show ((flat en l).drop 0).take (i*10)=_
 rw [List.drop_zero]
 conv=>lhs; rw [←List.take_append_drop i l,←flat_app]
 have hl:(flat en (l.take i)).length=i*10:=by rw [flat_len en_len,List.length_take]; congr 1; omega
 rw [List.take_append_of_le_length (by omega),List.take_of_length_le (by omega)]
set_option maxHeartbeats 4000000 in
theorem rright_ok' (s:St) (x y:Ext) (hs:smallS s):EP (EE env) 27 [.agg (stc s x y)]=some (.bool (decide (rightP s))):=by
 obtain ⟨hl,hl2,hE,h8⟩:=id hs
 have hlm:=hl
 rw [aS] at hl2
 refine Has.eq (aE ?_)
 (refine a8 _ rfl ?_)
 refine ab (v:=.int .i64 s.next) rfl ?_
 refine ah (fun q1=>?_) (fun q1=>?_)
 ·exact Has.intro (Has.intro (no fun h=>by have:=h.1; omega))
 (refine a8 _ rfl ?_)
 refine ab (v:=.int .i64 s.next) rfl ?_
 refine ah (fun q2=>?_) (fun q2=>?_)
 ·exact Has.intro (Has.intro (no fun h=>by have:=h.1; omega))
 (refine a8 _ rfl ?_)
 refine ab (v:=.sl x s.es.length (flat en s.es)) rfl ?_
 refine ah (fun q3=>?_) (fun q3=>?_)
 ·exact Has.intro (Has.intro (no fun h=>by have:=h.2.1; omega))
 (refine a8 _ rfl ?_)
 refine ab (v:=.sl x s.es.length (flat en s.es)) rfl ?_
 refine aw ?_
 refine aW (σ:=Nat) (fun i=>s.es.length-i) (fun i=>[(1,.ptr 0 0),(27,.pv (.sl x s.es.length (flat en s.es))),(28,.pv (.int .i64 s.es.length)),(29,.pv (.int .i64 i))]) (fun _=>[.pcells (stc s x y)])
  (fun i=>i≤s.es.length ∧ ∀ (k:Nat) (e:En),k<i→s.es[k]? = some e→okE s k e) (fun i ⟨hi,hA⟩ r J=>?_) 0 ⟨Nat.zero_le _,fun k h hk=>by omega⟩ [] ⟨rfl,rfl,rfl,rfl,trivial⟩ rfl
 refine ah (fun hc=>?_) (fun hc=>?_)
 ·have hlt:i<s.es.length:=by omega
  obtain ⟨e,hg⟩:∃ c,s.es[i]? = some c:=⟨_,List.getElem?_eq_getElem hlt⟩
  have hmem:e∈s.es:=List.mem_of_getElem? hg
  obtain ⟨g1,g2⟩:=aR en_len hg
  refine aa (by (first | rfl | (simp; done) | (simp; omega))) ?_
  refine ae g1 g2 ?_
  refine af ?_
  refine aa rfl ?_
  refine a9 (en e) rfl ?_
  rw [aH]
  refine af ?_
  refine ae (v:=en e) rfl (of_decide_eq_true rfl) ?_
  refine aI (rent_ok e (hE e hmem)) (fun h1=>?_) (fun h1=>?_)
  rotate_left
  ·exact Has.intro (Has.intro (Has.intro (no fun h=>h1 (h.2.2.1 i e hg).1)))
  refine af ?_
  refine ab (v:=.int .i64 e.age) rfl ?_
  (refine a8 _ rfl ?_)
  refine ab (v:=.int .i64 s.next) rfl ?_
  refine ah (fun h2=>?_) (fun h2=>?_)
  ·exact Has.intro (Has.intro (Has.intro (no fun h=>by have:=(h.2.2.1 i e hg).2.1; omega)))
  (refine a8 _ rfl ?_)
  refine ab (v:=.sl x s.es.length (flat en s.es)) rfl ?_
  refine aa (by (first | rfl | (simp; done) | (simp; omega))) ?_
  refine a9 (flat en (s.es.take i)) (flatE10 hi) ?_
  have k5:=ak ([HObj.pcells (stc s x y)]++J) (HObj.pcells (en e))
  have hH:([HObj.pcells (stc s x y)]++J)++[HObj.pcells (en e)]=[HObj.pcells (stc s x y)]++(J++[HObj.pcells (en e)]):=rfl
  rw [hH] at k5 ⊢
  generalize ([HObj.pcells (stc s x y)]++J).length=q at k5 ⊢
  generalize J++[HObj.pcells (en e)]=J at k5 ⊢
  refine aw ?_
  refine aW (σ:=Nat) (fun m=>i-m) (fun m=>[(1,.ptr 0 0),(4,.ptr q 0),(27,.pv (.sl x s.es.length (flat en s.es))),(28,.pv (.int .i64 s.es.length)),(29,.pv (.int .i64 i)),(47,.pv (.sl (x.part false false) i (flat en (s.es.take i)))),(48,.pv (.int .i64 i)),(49,.pv (.int .i64 m))]) (fun _=>[.pcells (stc s x y)]++J)
   (fun m=>m≤i ∧ ∀ (j:Nat) (f:En),j<m→s.es[j]? = some f→f.age≠e.age∧lt f.d.name e.d.name=true) (fun m ⟨hm,hB⟩ r J'=>?_) 0 ⟨Nat.zero_le _,fun j d h=>by omega⟩ [] ⟨rfl,rfl,rfl,rfl,rfl,rfl,rfl,rfl,trivial⟩ (List.append_nil _).symm
  refine ah (fun hc2=>?_) (fun hc2=>?_)
  ·have hlt2:m<i:=by omega
   obtain ⟨d,hdg⟩:∃ d,s.es[m]? = some d:=⟨_,List.getElem?_eq_getElem (show m<s.es.length by omega)⟩
   have hdt:(s.es.take i)[m]? = some d:=by rw [List.getElem?_take_of_lt hlt2]; exact hdg
   obtain ⟨f1,f2⟩:=aR en_len hdt
   refine aa (by (first | rfl | (simp; done) | (simp; omega))) ?_
   refine ae f1 f2 ?_
   refine af ?_
   refine aa rfl ?_
   refine a9 (en d) rfl ?_
   rw [aH]
   refine af ?_
   refine ab (v:=.int .i64 d.age) rfl ?_
   have k6:hget ([HObj.pcells (stc s x y)]++J++J'++[HObj.pcells (en d)]) q = .pcells (en e):=by
    rw [List.append_assoc]; exact (aA _ (ap k5 ((by intro h; cases h)))).trans k5
   refine a8 _ k6 ?_
   refine ab (v:=.int .i64 e.age) rfl ?_
   refine aP (fun h3=>?_) (fun h3=>?_)
   ·exact Has.intro (Has.intro (Has.intro (Has.intro (no fun h=>((h.2.2.1 i e hg).2.2 m d hlt2 hdg).1 h3))))
   refine af ?_
   refine ab (v:=sv d.d.name) rfl ?_
   refine a8 _ k6 ?_
   refine ab (v:=sv e.d.name) rfl ?_
   refine aD (str_geq d.d.name e.d.name) ?_
   by_cases h5:lt d.d.name e.d.name=false
   ·rw [decide_eq_true h5]
    refine Has.intro (Has.intro (Has.intro (Has.intro (no fun h=>?_))))
    have:=((h.2.2.1 i e hg).2.2 m d hlt2 hdg).2
    rw [h5] at this; cases this
   ·rw [decide_eq_false h5]
    refine a9 _ (aq (by omega)) ?_
    refine Has.intro ⟨m+1,⟨hlt2,fun j f hj hf=>?_⟩,by omega,⟨rfl,rfl,rfl,rfl,rfl,rfl,rfl,rfl,trivial⟩,_,List.append_assoc _ _ _⟩
    by_cases ej:j=m
    ·subst ej; rw [hdg] at hf; injection hf with hf; subst hf; exact ⟨h3,by simpa using h5⟩
    ·exact hB j f (by omega) hf
  ·have hme:m=i:=by omega
   subst hme
   refine Has.intro ?_
   refine a9 _ (aq (by omega)) ?_
   refine Has.intro ⟨m+1,⟨hlt,fun k f hk hf=>?_⟩,by omega,⟨rfl,rfl,rfl,rfl,trivial⟩,_,List.append_assoc _ _ _⟩
   by_cases ek:k=m
   ·subst ek; rw [hg] at hf; injection hf with hf; subst hf; exact ⟨h1,by omega,hB⟩
   ·exact hA k f (by omega) hf
 have:i=s.es.length:=by omega
 subst this
 have q4:entsP s:=fun k e hk=>hA k e (List.getElem?_eq_some_iff.1 hk).1 hk
 refine Has.intro ?_
 (refine a8 _ rfl ?_)
 refine ab (v:=.sl y s.hs.length (flat hoc s.hs)) rfl ?_
 refine aw ?_
 refine aW (σ:=Nat) (fun i=>s.hs.length-i) (fun i=>[(1,.ptr 0 0),(70,.pv (.sl y s.hs.length (flat hoc s.hs))),(71,.pv (.int .i64 s.hs.length)),(72,.pv (.int .i64 i))]) (fun _=>[.pcells (stc s x y)])
  (fun i=>i≤s.hs.length ∧ ∀ (k:Nat) (h:Ho),k<i→s.hs[k]? = some h→okH s k h) (fun i ⟨hi,hA⟩ r J=>?_) 0 ⟨Nat.zero_le _,fun k h hk=>by omega⟩ J ⟨rfl,rfl,rfl,rfl,trivial⟩ rfl
 refine ah (fun hc=>?_) (fun hc=>?_)
 rotate_left
 ·have:i=s.hs.length:=by omega
  subst this
  exact Has.intro (Has.intro (Has.intro (yes ⟨by omega,by omega,q4,fun k h hk=>hA k h (List.getElem?_eq_some_iff.1 hk).1 hk⟩)))
 have hlt:i<s.hs.length:=by omega
 obtain ⟨h,hg⟩:∃ c,s.hs[i]? = some c:=⟨_,List.getElem?_eq_getElem hlt⟩
 have hmem:h∈s.hs:=List.mem_of_getElem? hg
 obtain ⟨g1,g2⟩:=hs_get h8 hg
 have hh8:=h8 h hmem
 have hh11:=hoc_len hh8
 refine aa (by (first | rfl | (simp; done) | (simp; omega))) ?_
 refine ae g1 g2 ?_
 refine af ?_
 refine aa (by rw [hh11]; rfl) ?_
 refine a9 (hoc h) (by simp) ?_
 rw [aH]
 (refine a8 _ rfl ?_)
 (refine ae (v:=stc s x y) rfl (of_decide_eq_true rfl) ?_)
 refine af ?_
 refine ab (v:=sv h.o.pod) rfl ?_
 refine aj (rfindE_ok s x y hlm h.o.pod) ?_
 refine ah (fun q1=>?_) (fun q1=>?_)
 ·exact Has.intro (Has.intro (Has.intro (no fun hr=>by have:=(hr.2.2.2 i h hg).1.1; omega)))
 obtain ⟨k,e,hk,heg,hkl⟩:=findE_get (show 0≤findE h.o.pod s.es by omega)
 have hme:e∈s.es:=List.mem_of_getElem? heg
 (refine a8 _ rfl ?_)
 refine ab (v:=.sl x s.es.length (flat en s.es)) rfl ?_
 rw [hk]
 refine aa (by (first | rfl | (simp; done) | (simp; omega))) ?_
 obtain ⟨p1,p2⟩:=flat_part en_len heg (j:=0) (n:=4) (by decide)
 refine ae (v:=pdc e.d e.dx) (by rw [at_ij]; exact p1) (by rw [at_ij]; exact p2) ?_
 refine af ?_
 refine ab (v:=sv h.o.ctr) rfl ?_
 refine aj (rfind_ok e.dx e.d (hE e hme).1.2.1 h.o.ctr) ?_
 refine ah (fun q5=>?_) (fun q5=>?_)
 ·refine Has.intro (Has.intro (Has.intro (no fun hr=>?_)))
  have:=(hr.2.2.2 i h hg).1.2.2.2.2.2 e (by rw [hk]; exact heg)
  omega
 refine af ?_
 refine ab (v:=.int .i64 h.o.kind) rfl ?_
 refine ah (fun q6=>?_) (fun q6=>?_)
 ·exact Has.intro (Has.intro (Has.intro (no fun hr=>by have:=(hr.2.2.2 i h hg).1.2.1; omega)))
 refine af ?_
 refine ab (v:=.int .i64 h.o.kind) rfl ?_
 refine ah (fun q7=>?_) (fun q7=>?_)
 ·exact Has.intro (Has.intro (Has.intro (no fun hr=>by have:=(hr.2.2.2 i h hg).1.2.2.1; omega)))
 have hsp:((hoc h).drop 3).take 8=h.sp.map (PV.int .i64):=by
  show (h.sp.map (PV.int .i64)).take 8=_
  rw [List.take_of_length_le (by simp [hh8])]
 refine af ?_
 refine ae hsp (by rw [hh11]; decide) ?_
 refine bj (sp_eq (m:=z8) hh8 rfl) ?_
 refine ah (fun q8=>?_) (fun q8=>?_)
 ·exact Has.intro (Has.intro (Has.intro (no fun hr=>(hr.2.2.2 i h hg).1.2.2.2.1 q8)))
 refine af ?_
 refine ae hsp (by rw [hh11]; decide) ?_
 have k5:=ak ([HObj.pcells (stc s x y)]++J) (HObj.pcells (hoc h))
 have hH:([HObj.pcells (stc s x y)]++J)++[HObj.pcells (hoc h)]=[HObj.pcells (stc s x y)]++(J++[HObj.pcells (hoc h)]):=rfl
 rw [hH] at k5 ⊢
 generalize ([HObj.pcells (stc s x y)]++J).length=q at k5 ⊢
 generalize J++[HObj.pcells (hoc h)]=J at k5 ⊢
 refine aw ?_
 refine aC (σ:=Nat) (fun m=>8-m) (fun m=>[(1,.ptr 0 0),(7,.pv (.int .i64 i)),(8,.ptr q 0),(70,.pv (.sl y s.hs.length (flat hoc s.hs))),(71,.pv (.int .i64 s.hs.length)),(72,.pv (.int .i64 i)),(116,.pv (.agg (h.sp.map (PV.int .i64)))),(117,.pv (.int .i64 m))]) (fun _=>[.pcells (stc s x y)]++J)
  (fun m=>m≤8 ∧ ∀ (j:Nat) (n:Int),j<m→h.sp[j]? = some n→0≤n∧n≤1073741824) (fun m ⟨hm,hB⟩ r=>?_) 0 ⟨by decide,fun j n h=>by omega⟩ ⟨rfl,rfl,rfl,rfl,rfl,rfl,rfl,rfl,trivial⟩ rfl
 refine ah (fun hc2=>?_) (fun hc2=>?_)
 ·have hlt2:m<h.sp.length:=by omega
  obtain ⟨n,hng⟩:∃ c,h.sp[m]? = some c:=⟨_,List.getElem?_eq_getElem hlt2⟩
  have hnm:n∈h.sp:=List.mem_of_getElem? hng
  refine aa (by (first | rfl | (simp; done) | (simp; omega))) ?_
  refine ab (v:=.int .i64 n) (by rw [List.getElem?_map,show ((m:Nat):Int).toNat=m from rfl,hng]; rfl) ?_
  refine ah (fun q9=>?_) (fun q9=>?_)
  ·exact Has.intro (Has.intro (Has.intro (Has.intro (no fun hr=>by have:=((hr.2.2.2 i h hg).1.2.2.2.2.1 n hnm).1; omega))))
  refine ah (fun q10=>?_) (fun q10=>?_)
  ·exact Has.intro (Has.intro (Has.intro (Has.intro (no fun hr=>by have:=((hr.2.2.2 i h hg).1.2.2.2.2.1 n hnm).2; omega))))
  refine a9 _ (aq (by omega)) ?_
  refine Has.intro ⟨m+1,⟨by omega,fun j w hj hw=>?_⟩,by omega,⟨rfl,rfl,rfl,rfl,rfl,rfl,rfl,rfl,trivial⟩,rfl⟩
  by_cases ej:j=m
  ·subst ej; rw [hng] at hw; injection hw with hw; subst hw; omega
  ·exact hB j w (by omega) hw
 have:m=8:=by omega
 subst this
 have hH:holdP s h:=⟨by omega,by omega,by omega,q8,fun n hn=>by
  obtain ⟨j,hj⟩:=List.getElem?_of_mem hn
  exact hB j n (by have:=(List.getElem?_eq_some_iff.1 hj).1; omega) hj,fun f hf=>by
  rw [hk] at hf
  have hf:s.es[k]? = some f:=hf
  rw [heg] at hf; injection hf with hf; subst hf; omega⟩
 have next:okH s i h→i+1≤s.hs.length ∧ ∀ (k:Nat) (h:Ho),k<i+1→s.hs[k]? = some h→okH s k h:=fun ho=>⟨hlt,fun k f hk hf=>by
  by_cases ek:k=i
  ·subst ek; rw [hg] at hf; injection hf with hf; subst hf; exact ho
  ·exact hA k f (by omega) hf⟩
 refine Has.intro ?_
 refine ah (fun q11=>?_) (fun q11=>?_)
 ·have q11:0<i:=by omega
  obtain ⟨g,hgg⟩:∃ c,s.hs[i-1]? = some c:=⟨_,List.getElem?_eq_getElem (by omega)⟩
  (refine a8 _ rfl ?_)
  refine ab (v:=.sl y s.hs.length (flat hoc s.hs)) rfl ?_
  refine a9 ((i-1:Nat):Int) (by rw [wrap_i64 (by omega) (by omega)]; omega) ?_
  refine aa (by (first | rfl | (simp; done) | (simp; omega))) ?_
  obtain ⟨p1,p2⟩:=hs_part h8 hgg (j:=0) (n:=3) (by decide)
  refine ae (v:=ow g.o) (by rw [at_ij]; exact p1) (by rw [at_ij]; exact p2) ?_
  refine a8 _ k5 ?_
  refine ae (v:=ow h.o) rfl (by rw [hh11]; decide) ?_
  refine aj (before_ok g.o h.o) ?_
  cases ha:ahead g.o h.o
  ·refine Has.intro (Has.intro (Has.intro (no fun hr=>?_)))
   have:=(hr.2.2.2 i h hg).2 g q11 hgg
   rw [ha] at this; cases this
  ·refine a9 _ (aq (by omega)) ?_
   refine Has.intro ⟨i+1,next ⟨hH,fun f _ hf=>?_⟩,by omega,⟨rfl,rfl,rfl,rfl,trivial⟩,_,rfl⟩
   rw [hgg] at hf; injection hf with hf; subst hf
   exact ha
 ·refine a9 _ (aq (by omega)) ?_
  exact Has.intro ⟨i+1,next ⟨hH,fun f hf=>by omega⟩,by omega,⟨rfl,rfl,rfl,rfl,trivial⟩,_,rfl⟩
end Go.Proofs.YtflfdglnelbbiaaGreat
namespace Go.Proofs.YtflfdglnelbbiaaGreat
open Go Go.VM
def sameE (a b:En):Prop:=sameP a.d b.d∧sameP a.a b.a∧a.age=b.age∧a.due=b.due
noncomputable instance (a b:En):Decidable (sameE a b):=Classical.propDecidable _
noncomputable instance:DecidableEq Ho:=fun a b=>Classical.propDecidable (a=b)
def sameL (a b:List En):Prop:=a.length=b.length ∧ ∀ (j:Nat) (c d:En),a[j]? = some c→b[j]? = some d→sameE c d
noncomputable instance (a b:List En):Decidable (sameL a b):=Classical.propDecidable _
def sameS (a b:St):Prop:=a.next=b.next∧sameL a.es b.es∧a.hs=b.hs
noncomputable instance (a b:St):Decidable (sameS a b):=Classical.propDecidable _
theorem ho_eq {a b:Ho} (ha:a.sp.length=8) (hb:b.sp.length=8):aggEq [.s,.s,.i,.i,.i,.i,.i,.i,.i,.i,.i] (hoc a) (hoc b)=some (decide (a=b)):=by
 obtain ⟨⟨p,c,k⟩,l⟩:=a
 obtain ⟨⟨p',c',k'⟩,m⟩:=b
 match l,ha,m,hb with
 | [a0,a1,a2,a3,a4,a5,a6,a7],_,[b0,b1,b2,b3,b4,b5,b6,b7],_=>
   show some (_&&(_&&_))=some _
   congr 1
   rw [str_beq,str_beq,Bool.eq_iff_iff,decide_eq_true_iff]
   simp [Ow.mk.injEq,Ho.mk.injEq,and_assoc]
theorem listsH_eq {a b:List Ho} (hl:a.length=b.length) (h:∀ (j:Nat) (c d:Ho),a[j]? = some c→b[j]? = some d→c=d):a=b:=by
 refine List.ext_getElem? fun j=>?_
 cases ha:a[j]? with
 | none=>rw [List.getElem?_eq_none_iff] at ha; symm; rw [List.getElem?_eq_none_iff]; omega
 | some c=>
   obtain ⟨hj,_⟩:=List.getElem?_eq_some_iff.1 ha
   have hb:b[j]? = some _:=List.getElem?_eq_getElem (show j<b.length by omega)
   rw [hb,h j c _ ha hb]
set_option maxHeartbeats 2000000 in
theorem rsameS_ok (s t:St) (x y x' y':Ext) (hs:smallS s) (ht:smallS t):EP (EE env) 20 [.agg (stc s x y),.agg (stc t x' y')]=some (.bool (decide (sameS s t))):=by
 obtain ⟨l1,l2,hE,h8⟩:=hs
 obtain ⟨m1,m2,_,g8⟩:=ht
 rw [aS] at l1 l2 m1 m2
 refine Has.eq (aE ?_)
 (refine a8 _ rfl ?_)
 refine ab (v:=.int .i64 s.next) rfl ?_
 (refine a8 _ rfl ?_)
 refine ab (v:=.int .i64 t.next) rfl ?_
 refine aO (fun h1=>?_) (fun h1=>?_)
 ·exact Has.intro (Has.intro (no fun h=>h1 h.1))
 (refine a8 _ rfl ?_)
 refine ab (v:=.sl x s.es.length (flat en s.es)) rfl ?_
 (refine a8 _ rfl ?_)
 refine ab (v:=.sl x' t.es.length (flat en t.es)) rfl ?_
 refine aO (fun h2=>?_) (fun h2=>?_)
 ·exact Has.intro (Has.intro (no fun h=>h2 (by rw [h.2.1.1])))
 (refine a8 _ rfl ?_)
 refine ab (v:=.sl y s.hs.length (flat hoc s.hs)) rfl ?_
 (refine a8 _ rfl ?_)
 refine ab (v:=.sl y' t.hs.length (flat hoc t.hs)) rfl ?_
 refine aO (fun h3=>?_) (fun h3=>?_)
 ·exact Has.intro (Has.intro (no fun h=>h3 (by rw [h.2.2])))
 have hab:s.es.length=t.es.length:=by omega
 have hcd:s.hs.length=t.hs.length:=by omega
 (refine a8 _ rfl ?_)
 refine ab (v:=.sl x s.es.length (flat en s.es)) rfl ?_
 refine aw ?_
 refine aW (σ:=Nat) (fun i=>s.es.length-i) (fun i=>[(2,.ptr 0 0),(3,.ptr 1 0),(34,.pv (.sl x s.es.length (flat en s.es))),(35,.pv (.int .i64 s.es.length)),(36,.pv (.int .i64 i))]) (fun _=>[.pcells (stc s x y),.pcells (stc t x' y')])
  (fun i=>i≤s.es.length ∧ ∀ (j:Nat) (c d:En),j<i→s.es[j]? = some c→t.es[j]? = some d→sameE c d) (fun i ⟨hi,hA⟩ r J=>?_) 0 ⟨Nat.zero_le _,fun j c d h=>by omega⟩ [] ⟨rfl,rfl,rfl,rfl,rfl,trivial⟩ rfl
 refine ah (fun hc=>?_) (fun hc=>?_)
 ·have hlt:i<s.es.length:=by omega
  obtain ⟨c,hcg⟩:∃ c,s.es[i]? = some c:=⟨_,List.getElem?_eq_getElem hlt⟩
  obtain ⟨d,hdg⟩:∃ c,t.es[i]? = some c:=⟨_,List.getElem?_eq_getElem (show i<t.es.length by omega)⟩
  have hce:=hE c (List.mem_of_getElem? hcg)
  obtain ⟨g1,g2⟩:=aR en_len hcg
  obtain ⟨f1,f2⟩:=aR en_len hdg
  refine aa (by (first | rfl | (simp; done) | (simp; omega))) ?_
  refine ae g1 g2 ?_
  refine af ?_
  refine aa rfl ?_
  refine a9 (en c) rfl ?_
  rw [aH]
  refine a8 (.pcells (stc t x' y')) rfl ?_
  refine ab (v:=.sl x' t.es.length (flat en t.es)) rfl ?_
  refine aa (by (first | rfl | (simp; done) | (simp; omega))) ?_
  refine ae f1 f2 ?_
  refine af ?_
  refine aa rfl ?_
  refine a9 (en d) rfl ?_
  rw [aH]
  have k6:hget ([HObj.pcells (stc s x y),HObj.pcells (stc t x' y')]++J++[HObj.pcells (en c)]++[HObj.pcells (en d)]) ([HObj.pcells (stc s x y),HObj.pcells (stc t x' y')]++J).length = .pcells (en c):=(aA _ (by simp)).trans (ak _ _)
  refine a8 _ k6 ?_
  refine ae (v:=pdc c.d c.dx) rfl (of_decide_eq_true rfl) ?_
  refine af ?_
  refine ae (v:=pdc d.d d.dx) rfl (of_decide_eq_true rfl) ?_
  refine aI (rsame_ok c.dx d.dx c.d d.d hce.1.2.1) (fun q1=>?_) (fun q1=>?_)
  rotate_left
  ·exact Has.intro (Has.intro (Has.intro (no fun h=>q1 (h.2.1.2 i c d hcg hdg).1)))
  refine a8 _ k6 ?_
  refine ae (v:=pdc c.a c.ax) rfl (of_decide_eq_true rfl) ?_
  refine af ?_
  refine ae (v:=pdc d.a d.ax) rfl (of_decide_eq_true rfl) ?_
  refine aI (rsame_ok c.ax d.ax c.a d.a hce.2.2.1) (fun q2=>?_) (fun q2=>?_)
  rotate_left
  ·exact Has.intro (Has.intro (Has.intro (no fun h=>q2 (h.2.1.2 i c d hcg hdg).2.1)))
  refine a8 _ k6 ?_
  refine ab (v:=.int .i64 c.age) rfl ?_
  refine af ?_
  refine ab (v:=.int .i64 d.age) rfl ?_
  refine aO (fun q3=>?_) (fun q3=>?_)
  ·exact Has.intro (Has.intro (Has.intro (no fun h=>q3 (h.2.1.2 i c d hcg hdg).2.2.1)))
  refine a8 _ k6 ?_
  refine ab (v:=.int .i64 c.due) rfl ?_
  refine af ?_
  refine ab (v:=.int .i64 d.due) rfl ?_
  refine aO (fun q4=>?_) (fun q4=>?_)
  ·exact Has.intro (Has.intro (Has.intro (no fun h=>q4 (h.2.1.2 i c d hcg hdg).2.2.2)))
  refine a9 _ (aq (by omega)) ?_
  refine Has.intro ⟨i+1,⟨hlt,fun j c' d' hj h1 h2=>?_⟩,by omega,⟨rfl,rfl,rfl,rfl,rfl,trivial⟩,J++[HObj.pcells (en c)]++[HObj.pcells (en d)],rfl⟩
  by_cases ej:j=i
  ·subst ej
   rw [hcg] at h1; rw [hdg] at h2
   injection h1 with h1; injection h2 with h2
   rw [←h1,←h2]; exact ⟨q1,q2,q3,q4⟩
  ·exact hA j c' d' (by omega) h1 h2
 have:i=s.es.length:=by omega
 subst this
 refine Has.intro ?_
 (refine a8 _ rfl ?_)
 refine ab (v:=.sl y s.hs.length (flat hoc s.hs)) rfl ?_
 refine aw ?_
 refine aW (σ:=Nat) (fun i=>s.hs.length-i) (fun i=>[(2,.ptr 0 0),(3,.ptr 1 0),(76,.pv (.sl y s.hs.length (flat hoc s.hs))),(77,.pv (.int .i64 s.hs.length)),(78,.pv (.int .i64 i))]) (fun _=>[.pcells (stc s x y),.pcells (stc t x' y')])
  (fun i=>i≤s.hs.length ∧ ∀ (j:Nat) (c d:Ho),j<i→s.hs[j]? = some c→t.hs[j]? = some d→c=d) (fun i ⟨hi,hB⟩ r J=>?_) 0 ⟨Nat.zero_le _,fun j c d h=>by omega⟩ J ⟨rfl,rfl,rfl,rfl,rfl,trivial⟩ rfl
 refine ah (fun hc=>?_) (fun hc=>?_)
 ·have hlt:i<s.hs.length:=by omega
  obtain ⟨c,hcg⟩:∃ c,s.hs[i]? = some c:=⟨_,List.getElem?_eq_getElem hlt⟩
  obtain ⟨d,hdg⟩:∃ c,t.hs[i]? = some c:=⟨_,List.getElem?_eq_getElem (show i<t.hs.length by omega)⟩
  obtain ⟨g1,g2⟩:=hs_get h8 hcg
  obtain ⟨f1,f2⟩:=hs_get g8 hdg
  have hc11:=hoc_len (h8 c (List.mem_of_getElem? hcg))
  refine aa (by (first | rfl | (simp; done) | (simp; omega))) ?_
  refine ae g1 g2 ?_
  refine af ?_
  refine aa (by rw [hc11]; rfl) ?_
  refine a9 (hoc c) (by simp) ?_
  rw [aH]
  refine af ?_
  refine ae (v:=hoc c) (by rw [List.drop_zero,List.take_of_length_le (by omega)]) (by rw [hc11]; decide) ?_
  refine a8 (.pcells (stc t x' y')) rfl ?_
  refine ab (v:=.sl y' t.hs.length (flat hoc t.hs)) rfl ?_
  refine aa (by (first | rfl | (simp; done) | (simp; omega))) ?_
  refine ae f1 f2 ?_
  refine bj (ho_eq (h8 c (List.mem_of_getElem? hcg)) (g8 d (List.mem_of_getElem? hdg))) ?_
  by_cases e:c=d
  ·refine aD (c:=false) (by rw [decide_eq_true e]; rfl) ?_
   refine a9 _ (aq (by omega)) ?_
   refine Has.intro ⟨i+1,⟨hlt,fun j c' d' hj h1 h2=>?_⟩,by omega,⟨rfl,rfl,rfl,rfl,rfl,trivial⟩,_,List.append_assoc _ _ _⟩
   by_cases ej:j=i
   ·subst ej
    rw [hcg] at h1; rw [hdg] at h2
    injection h1 with h1; injection h2 with h2
    rw [←h1,←h2]; exact e
   ·exact hB j c' d' (by omega) h1 h2
  ·refine aD (c:=true) (by rw [decide_eq_false e]; rfl) ?_
   refine Has.intro (Has.intro (Has.intro (no (fun h=>e ?_))))
   rw [h.2.2,hdg] at hcg
   injection hcg with hcg; exact hcg.symm
 ·have:i=s.hs.length:=by omega
  subst this
  exact Has.intro (Has.intro (Has.intro (yes ⟨by omega,⟨hab,fun j c d q1 q2=>hA j c d (List.getElem?_eq_some_iff.1 q1).1 q1 q2⟩,listsH_eq hcd (fun j c d h1 h2=>hB j c d (List.getElem?_eq_some_iff.1 h1).1 h1 h2)⟩)))
end Go.Proofs.YtflfdglnelbbiaaGreat
namespace Go.Proofs.YtflfdglnelbbiaaGreat
open Go Go.VM
theorem wrap_if (a:Int):∃ m,IntKind.i64.wrap a=m∧((-9223372036854775808≤a∧a≤9223372036854775807)→m=a):=⟨_,rfl,fun h=>wrap_i64 h.1 h.2⟩
theorem nameB_len {l:List UInt8} (h:nameB l=true):0<l.length∧l.length<17:=by
 unfold nameB at h
 rw [Bool.and_eq_true,Bool.and_eq_true,decide_eq_true_iff,decide_eq_true_iff] at h
 exact h.1
theorem pod_names {p:Pd} (h:podP p):p.name.length≤16∧(1≤p.l.length∧p.l.length≤6) ∧ ∀ c∈p.l,c.name.length≤16:=by
 refine ⟨by have:=nameB_len h.1; omega,h.2.2.2.1,fun c hc=>?_⟩
 obtain ⟨i,hi⟩:=List.getElem?_of_mem hc
 have:=nameB_len (h.2.2.2.2.1 i c hi).2.1
 omega
theorem findF_range {name:List UInt8}:∀ (l:List Ct) (i:Nat),findF name i l = -1∨((i:Int)≤findF name i l∧findF name i l<(i:Int)+l.length ∧ ∃ c∈l,c.name=name)
 | [],i=>.inl rfl
 | e::l,i=>by
   unfold findF
   split
   ·rename_i h; exact .inr ⟨by omega,by simp; omega,e,by simp,h⟩
   ·rcases findF_range l (i+1) with h | ⟨h1,h2,c,h3,h4⟩
    ·exact .inl h
    ·exact .inr ⟨by omega,by simp; omega,c,by simp [h3],h4⟩
theorem findEF_name {name:List UInt8}:∀ (l:List En) (i k:Nat) (e:En),findEF name i l=((i+k:Nat):Int)→l[k]? = some e→e.d.name=name
 | [],i,k,e,_,h=>by simp at h
 | d::l,i,k,e,h,hg=>by
   unfold findEF at h
   split at h
   ·rename_i hd
    have:k=0:=by omega
    subst this
    simp at hg; subst hg; exact hd
   ·cases k with
    | zero=>
      rcases findEF_range (name:=name) l (i+1) with g | ⟨g,_⟩
      ·omega
      ·omega
    | succ k=>
      exact findEF_name l (i+1) k e (by rw [h]; omega) (by simpa using hg)
theorem hold_names {s:St} (hE:entsP s) {h:Ho} (hh:holdP s h):h.o.pod.length≤16∧h.o.ctr.length≤16:=by
 obtain ⟨k,e,hk,hg,_⟩:=findE_get hh.1
 have hp:=pod_names (hE k e hg).1.1
 have hn:=findEF_name s.es 0 k e (by rw [Nat.zero_add]; exact hk) hg
 refine ⟨by rw [←hn]; exact hp.1,?_⟩
 have hc:=hh.2.2.2.2.2 e (by rw [hk]; exact hg)
 have e1:findI h.o.ctr e.d.l=findF h.o.ctr 0 e.d.l:=rfl
 rcases findF_range (name:=h.o.ctr) e.d.l 0 with g | ⟨_,_,c,h3,h4⟩
 ·omega
 ·rw [←h4]; exact hp.2.2 c h3
set_option maxHeartbeats 4000000 in
theorem great5_ok (x:Ext) (p:Pd) (hs:small p):∃ n:Int,EP (EE env) 42 [.agg (pdc p x)]=some (.int .i64 n)∧(podP p→0≤n∧n≤1000):=by
 obtain ⟨hs1,hs2,hs3⟩:=hs
 have hl:=hs2
 rw [aS] at hl hs1
 have main:Has (EP (EE env) 42 [.agg (pdc p x)]) (fun v=>∃ n:Int,v = .int .i64 n∧(podP p→0≤n∧n≤1000)):=by
  refine aE ?_
  (refine a8 _ rfl ?_)
  refine ab (v:=sv p.name) rfl ?_
  (refine a8 _ rfl ?_)
  refine ab (v:=.sl x p.l.length (flat ct p.l)) rfl ?_
  refine aw ?_
  refine aW (σ:=Nat × Int) (fun s=>p.l.length-s.1) (fun s=>[(3,.pv (.int .i64 s.2)),(10,.pv (.sl x p.l.length (flat ct p.l))),(11,.pv (.int .i64 p.l.length)),(12,.pv (.int .i64 s.1))]) (fun _=>[.pcells (pdc p x)])
   (fun s=>s.1≤p.l.length∧(podP p→0≤s.2∧s.2≤16+26*s.1)) (fun ⟨i,n⟩ ⟨hi,hn⟩ r J=>?_) (0,_) ⟨Nat.zero_le _,fun h=>?_⟩ [] ⟨rfl,rfl,rfl,rfl,trivial⟩ rfl
  rotate_left
  ·have:=(pod_names h).1
   show (0:Int)≤(((⟨p.name.toArray⟩:ByteArray).size:Nat):Int)∧(((⟨p.name.toArray⟩:ByteArray).size:Nat):Int)≤_
   rw [ay]
   omega
  dsimp only at hi hn ⊢
  refine ah (fun hc=>?_) (fun hc=>?_)
  ·have hlt:i<p.l.length:=by omega
   obtain ⟨c,hcg⟩:∃ c,p.l[i]? = some c:=⟨_,List.getElem?_eq_getElem hlt⟩
   obtain ⟨g1,g2⟩:=aR ct_len hcg
   refine aa (by (first | rfl | (simp; done) | (simp; omega))) ?_
   refine ae g1 g2 ?_
   refine af ?_
   refine aa rfl ?_
   refine a9 (ct c) rfl ?_
   rw [aH]
   refine ah (fun h=>?_) (fun h=>?_)
   ·exact Has.intro (Has.intro (Has.intro ⟨5000,rfl,fun h=>by have:=pod_names h; omega⟩))
   ·refine af ?_
    refine ab (v:=sv c.name) rfl ?_
    obtain ⟨X,eX,hX⟩:∃ X,(if (3000:Int)<(c.name.length:Int) then 3000 else (c.name.length:Int))=X∧(c.name.length≤16→X=c.name.length):=⟨_,rfl,fun h=>if_neg (by omega)⟩
    obtain ⟨m1,e1,w1⟩:=wrap_if (10+X)
    obtain ⟨m2,e2,w2⟩:=wrap_if (n+m1)
    refine a9 X (by rw [ay]; exact eX) ?_
    refine a9 m1 e1 ?_
    refine a9 m2 e2 ?_
    refine a9 _ (aq (by omega)) ?_
    refine Has.intro ⟨(i+1,m2),⟨hlt,fun hp=>?_⟩,(by dsimp only; omega),⟨rfl,rfl,rfl,rfl,trivial⟩,_,List.append_assoc _ _ _⟩
    have:=hn hp
    have q:=(pod_names hp).2.2 c (List.mem_of_getElem? hcg)
    have q2:=(pod_names hp).2.1
    have:=hX q
    have:=w1 (by omega)
    have:=w2 (by omega)
    dsimp only
    omega
  ·exact Has.intro (Has.intro (Has.intro ⟨_,rfl,fun hp=>by have:=hn hp; have:=pod_names hp; omega⟩))
 obtain ⟨v,h1,n,h2,h3⟩:=main
 exact ⟨n,by rw [h1,h2],h3⟩
set_option maxHeartbeats 4000000 in
theorem great_ok' (s:St) (x y:Ext) (hs:smallS s):∃ n:Int,EP (EE env) 26 [.agg (stc s x y)]=some (.int .i64 n)∧(rightP s→n≤8000→s.hs.length≤400):=by
 obtain ⟨l1,l2,hE,h8⟩:=hs
 rw [aS] at l1 l2
 have main:Has (EP (EE env) 26 [.agg (stc s x y)]) (fun v=>∃ n:Int,v = .int .i64 n∧(rightP s→n≤8000→s.hs.length≤400)):=by
  refine aE ?_
  (refine a8 _ rfl ?_)
  refine ab (v:=.sl y s.hs.length (flat hoc s.hs)) rfl ?_
  obtain ⟨b,hb,hb2⟩:∃ b:Int,IntKind.i64.wrap (20*(if (500:Int)<(s.hs.length:Int) then 500 else (s.hs.length:Int)))=b∧0≤b∧b≤10000∧(b≤8000→s.hs.length≤400):=by
   refine ⟨20*(if (500:Int)<(s.hs.length:Int) then 500 else (s.hs.length:Int)),?_,?_⟩
   ·split
    ·rfl
    ·exact wrap_i64 (by omega) (by omega)
   ·split<;>omega
  refine a9 (if (500:Int)<(s.hs.length:Int) then 500 else (s.hs.length:Int)) rfl ?_
  refine a9 b hb ?_
  (refine a8 _ rfl ?_)
  refine ab (v:=.sl x s.es.length (flat en s.es)) rfl ?_
  refine aw ?_
  refine aW (σ:=Nat × Int) (fun t=>s.es.length-t.1) (fun t=>[(1,.ptr 0 0),(3,.pv (.int .i64 t.2)),(14,.pv (.sl x s.es.length (flat en s.es))),(15,.pv (.int .i64 s.es.length)),(16,.pv (.int .i64 t.1))]) (fun _=>[.pcells (stc s x y)])
   (fun t=>t.1≤s.es.length∧(rightP s→b≤t.2∧t.2≤b+2010*t.1)) (fun ⟨i,n⟩ ⟨hi,hn⟩ r J=>?_) (0,b) ⟨Nat.zero_le _,fun h=>by dsimp only; omega⟩ [] ⟨rfl,rfl,rfl,rfl,rfl,trivial⟩ rfl
  dsimp only at hi hn ⊢
  refine ah (fun hc=>?_) (fun hc=>?_)
  ·have hlt:i<s.es.length:=by omega
   obtain ⟨e,hg⟩:∃ c,s.es[i]? = some c:=⟨_,List.getElem?_eq_getElem hlt⟩
   have hmem:e∈s.es:=List.mem_of_getElem? hg
   obtain ⟨g1,g2⟩:=aR en_len hg
   refine aa (by (first | rfl | (simp; done) | (simp; omega))) ?_
   refine ae g1 g2 ?_
   refine af ?_
   refine aa rfl ?_
   refine a9 (en e) rfl ?_
   rw [aH]
   refine ah (fun h=>?_) (fun h=>?_)
   ·exact Has.intro (Has.intro (Has.intro ⟨20000,rfl,fun _ h=>by omega⟩))
   obtain ⟨m1,e1,b1⟩:=great5_ok e.dx e.d (hE e hmem).1
   obtain ⟨m2,e2,b2⟩:=great5_ok e.ax e.a (hE e hmem).2
   refine af ?_
   refine ae (v:=pdc e.d e.dx) rfl (of_decide_eq_true rfl) ?_
   refine aj e1 ?_
   obtain ⟨k1,f1,w1⟩:=wrap_if (10+m1)
   obtain ⟨k2,f2,w2⟩:=wrap_if (k1+m2)
   obtain ⟨k3,f3,w3⟩:=wrap_if (n+k2)
   refine a9 k1 f1 ?_
   refine af ?_
   refine ae (v:=pdc e.a e.ax) rfl (of_decide_eq_true rfl) ?_
   refine aj e2 ?_
   refine a9 k2 f2 ?_
   refine a9 k3 f3 ?_
   refine a9 _ (aq (by omega)) ?_
   refine Has.intro ⟨(i+1,k3),⟨hlt,fun hp=>?_⟩,(by dsimp only; omega),⟨rfl,rfl,rfl,rfl,rfl,trivial⟩,_,List.append_assoc _ _ _⟩
   have:=hn hp
   have q:=(hp.2.2.1 i e hg).1
   have c1:=b1 q.1
   have c2:=b2 q.2.1
   have:=w1 (by omega)
   have:=w2 (by omega)
   have:=w3 (by omega)
   dsimp only
   omega
  refine Has.intro ?_
  (refine a8 _ rfl ?_)
  refine ab (v:=.sl y s.hs.length (flat hoc s.hs)) rfl ?_
  refine aw ?_
  refine aW (σ:=Nat × Int) (fun t=>s.hs.length-t.1) (fun t=>[(3,.pv (.int .i64 t.2)),(35,.pv (.sl y s.hs.length (flat hoc s.hs))),(36,.pv (.int .i64 s.hs.length)),(37,.pv (.int .i64 t.1))]) (fun _=>[.pcells (stc s x y)])
   (fun t=>t.1≤s.hs.length∧(rightP s→b≤t.2∧t.2≤50000)) (fun ⟨i,n⟩ ⟨hi,hn⟩ r J=>?_) (0,n) ⟨Nat.zero_le _,fun h=>by have:=hn h; have:=h.2.1; dsimp only; omega⟩ J ⟨rfl,rfl,rfl,rfl,trivial⟩ rfl
  dsimp only at hi hn ⊢
  refine ah (fun hc=>?_) (fun hc=>?_)
  ·have hlt:i<s.hs.length:=by omega
   obtain ⟨h,hg⟩:∃ c,s.hs[i]? = some c:=⟨_,List.getElem?_eq_getElem hlt⟩
   have hmem:h∈s.hs:=List.mem_of_getElem? hg
   obtain ⟨g1,g2⟩:=hs_get h8 hg
   have hh11:=hoc_len (h8 h hmem)
   refine aa (by (first | rfl | (simp; done) | (simp; omega))) ?_
   refine ae g1 g2 ?_
   refine af ?_
   refine aa (by rw [hh11]; rfl) ?_
   refine a9 (hoc h) (by simp) ?_
   rw [aH]
   refine af ?_
   refine ab (v:=sv h.o.pod) rfl ?_
   refine af ?_
   refine ab (v:=sv h.o.ctr) rfl ?_
   obtain ⟨k1,f1,w1⟩:=wrap_if ((h.o.pod.length:Int)+(h.o.ctr.length:Int))
   obtain ⟨k2,f2,w2⟩:∃ k2,(if (5000:Int)<k1 then 5000 else k1)=k2∧(k1≤5000→k2=k1):=⟨_,rfl,fun h=>if_neg (by omega)⟩
   obtain ⟨k3,f3,w3⟩:=wrap_if (n+k2)
   refine a9 k1 (by rw [ay,ay]; exact f1) ?_
   refine a9 k2 f2 ?_
   refine a9 k3 f3 ?_
   have fact:rightP s→0≤k2∧k2≤32:=fun hp=>by
    obtain ⟨c1,c2⟩:=hold_names hp.2.2.1 (hp.2.2.2 i h hg).1
    have:=w1 (by omega)
    have:=w2 (by omega)
    omega
   refine ah (fun q=>?_) (fun q=>?_)
   ·exact Has.intro (Has.intro (Has.intro ⟨_,rfl,fun _ h=>by omega⟩))
   ·refine a9 _ (aq (by omega)) ?_
    refine Has.intro ⟨(i+1,k3),⟨hlt,fun hp=>?_⟩,(by dsimp only; omega),⟨rfl,rfl,rfl,rfl,trivial⟩,_,List.append_assoc _ _ _⟩
    have:=hn hp
    have:=fact hp
    have:=w3 (by omega)
    dsimp only
    omega
  ·exact Has.intro (Has.intro (Has.intro ⟨_,rfl,fun hp=>by have:=hn hp; omega⟩))
 obtain ⟨v,h1,n,h2,h3⟩:=main
 exact ⟨n,by rw [h1,h2],h3⟩
end Go.Proofs.YtflfdglnelbbiaaGreat
namespace Go.Proofs.YtflfdglnelbbiaaGreat
open Go Go.VM
def catB {α:Type} (f:α→List UInt8) (l:List α):List UInt8:=(l.map f).flatten
theorem catB_nil {α:Type} (f:α→List UInt8):catB f []=[]:=rfl
theorem catB_cons {α:Type} (f:α→List UInt8) (a:α) (l:List α):catB f (a::l)=f a++catB f l:=by simp [catB]
theorem catB_step {α:Type} (f:α→List UInt8) {l:List α} {i:Nat} {a:α} (h:l[i]? = some a):catB f (l.take (i+1))=catB f (l.take i)++f a:=by
 rw [List.take_add_one,h]; simp [catB]
theorem bu {α:Type} {f:α→List UInt8} {b:Nat}:∀ {l:List α},(∀ a∈l,(f a).length≤b)→(catB f l).length≤l.length*b
 | [],_=>by simp [catB]
 | a::l,h=>by
   have:=bu (l:=l) (fun x hx=>h x (by simp [hx]))
   have:=h a (by simp)
   rw [catB_cons,List.length_append,List.length_cons,Nat.add_mul]
   omega
def num (n:Int):List UInt8:=T.enc n.toNat
def txt (l:List UInt8):List UInt8:=T.enc l.length++l
def flg (b:Bool):List UInt8:=T.enc b.toNat
def vl3 (v:Vc):List Int:=[v.c,v.m,v.h]
def vecB (v:Vc):List UInt8:=catB num (vl3 v)
def fl3 (c:Ct):List Bool:=[c.r0,c.r1,c.r2]
def ctB (x:Ct × Ct):List UInt8:=txt x.1.name++catB flg (fl3 x.1)++catB vecB [x.1.rq,x.1.lm,x.2.rq,x.2.lm]
def entB (e:En):List UInt8:=txt e.d.name++T.enc (T.zn e.d.prio)++num e.d.pol++T.enc e.d.l.length++catB ctB (e.d.l.zip e.a.l)++num e.age++num e.due
def hoB (h:Ho):List UInt8:=txt h.o.pod++txt h.o.ctr++num h.o.kind++catB num h.sp
def putB (s:St):List UInt8:=num s.next++T.enc s.es.length++catB entB s.es++T.enc s.hs.length++catB hoB s.hs
def nok (n:Int):Prop:=0≤n∧n≤9223372036854775807
theorem bv {n:Int} (h:nok n):(num n).length≤10:=T.enc_ten (by have:=h.2; have:=h.1; omega)
theorem len_enc {n:Nat} (h:n≤1000000):(T.enc n).length≤10:=T.enc_ten (by omega)
theorem txt_len {l:List UInt8} (h:l.length≤16):(txt l).length≤26:=by
 unfold txt; rw [List.length_append]; have:=len_enc (n:=l.length) (by omega); omega
theorem flg_len (b:Bool):(flg b).length≤10:=len_enc (by cases b<;>decide)
theorem vR_nok {v:Vc} (h:vR v):∀ n∈vl3 v,nok n:=by
 intro n hn
 have:=vR_in h
 simp only [vl3,List.mem_cons,List.mem_nil_iff,or_false] at hn
 unfold nok
 rcases hn with rfl | rfl | rfl<;>omega
theorem vecB_len {v:Vc} (h:vR v):(vecB v).length≤30:=by
 have:=bu (f:=num) (b:=10) (l:=vl3 v) (fun n hn=>bv (vR_nok h n hn))
 simpa [vecB,vl3] using this
theorem four_vR {c d:Ct} (h1:cP c) (h2:cP d):∀ v∈[c.rq,c.lm,d.rq,d.lm],vR v:=by
 intro v hv
 simp only [List.mem_cons,List.mem_nil_iff,or_false] at hv
 rcases hv with rfl | rfl | rfl | rfl
 ·exact h1.2.1
 ·exact h1.2.2.1
 ·exact h2.2.1
 ·exact h2.2.2.1
theorem ctB_len {x:Ct × Ct} (h1:cP x.1) (h2:cP x.2):(ctB x).length≤180:=by
 have a:=nameB_len h1.1
 have b:=txt_len (l:=x.1.name) (by omega)
 have c:(catB flg (fl3 x.1)).length≤3*10:=bu (f:=flg) (b:=10) (l:=fl3 x.1) (fun b _=>flg_len b)
 have d:=bu (f:=vecB) (b:=30) (l:=[x.1.rq,x.1.lm,x.2.rq,x.2.lm]) (fun v hv=>vecB_len (four_vR h1 h2 v hv))
 simp at d
 unfold ctB
 rw [List.length_append,List.length_append]
 omega
theorem zip_cP {e:En} (h:entP e):∀ x∈e.d.l.zip e.a.l,cP x.1∧cP x.2:=by
 intro x hx
 obtain ⟨h1,h2⟩:=List.of_mem_zip hx
 obtain ⟨i,hi⟩:=List.getElem?_of_mem h1
 obtain ⟨j,hj⟩:=List.getElem?_of_mem h2
 exact ⟨(h.1.2.2.2.2.1 i _ hi).2,(h.2.1.2.2.2.2.1 j _ hj).2⟩
theorem due_le {e:En} (h:entP e):e.due≤63:=by
 have h1:=h.2.2.2.2.2.2
 have h2:=h.1.2.2.2.1
 rcases six h2 with e1 | e1 | e1 | e1 | e1 | e1<;>rw [e1] at h1<;>omega
theorem entB_len {e:En} (h:entP e):(entB e).length≤1200:=by
 have p:=pod_names h.1
 have a:=txt_len p.1
 have b:=T.zn_lt (n:=e.d.prio) (by have:=h.1.2.1; omega) (by have:=h.1.2.1; omega)
 have b:=T.enc_ten b.1
 have c:=bv (n:=e.d.pol) (by have:=h.1.2.2.1; unfold nok; omega)
 have d:=len_enc (n:=e.d.l.length) (by omega)
 have f:=bu (f:=ctB) (b:=180) (l:=e.d.l.zip e.a.l) (fun x hx=>ctB_len (zip_cP h x hx).1 (zip_cP h x hx).2)
 have g:=bv (n:=e.age) (by have:=h.2.2.2.2.1; unfold nok; omega)
 have k:=bv (n:=e.due) (by have:=due_le h; have:=h.2.2.2.2.2.1; unfold nok; omega)
 rw [List.length_zip] at f
 unfold entB
 simp only [List.length_append]
 omega
theorem hoB_len {s:St} (hE:entsP s) {h:Ho} (hh:holdP s h) (h8:h.sp.length=8):(hoB h).length≤150:=by
 obtain ⟨a,b⟩:=hold_names hE hh
 have a:=txt_len a
 have b:=txt_len b
 have c:=bv (n:=h.o.kind) (by have:=hh.2.1; have:=hh.2.2.1; unfold nok; omega)
 have d:=bu (f:=num) (b:=10) (l:=h.sp) (fun n hn=>bv (by have:=hh.2.2.2.2.1 n hn; unfold nok; omega))
 unfold hoB
 simp only [List.length_append]
 omega
theorem u64n {n:Int} (h:nok n):IntKind.u64.wrap n=((n.toNat:Nat):Int):=by
 obtain ⟨h1,h2⟩:=h
 rw [aL]; omega
theorem nok_lt {n:Int} (h:nok n):n.toNat<18446744073709551616:=by obtain ⟨h1,h2⟩:=h; omega
theorem Keep.app (p:Nat) (H L:Heap):Keep p H (H++L):=⟨by simp,fun _ _ _ h hd _=>(aA L (ap h hd)).trans h⟩
set_option maxHeartbeats 2000000 in
theorem vput_ok (p:Nat) (x:Ext) (l:List Vc) (hl:l.length≤100) (hv:∀ v∈l,vR v) (bs:List UInt8) (hb:bs.length≤900000) (H:Heap) (ht:TP H p bs) :
 Has (EE env (.fn 71) [.ptr p 0,.pv (.sl x l.length (flat vc l))] H) (T.Wrote p (bs++catB vecB l) H):=by
 refine aK ?_
 refine aw ?_
 refine aC (σ:=Nat × Heap) (fun s=>l.length-s.1) (fun s=>[(0,.ptr p 0),(8,.pv (.sl x l.length (flat vc l))),(9,.pv (.int .i64 l.length)),(10,.pv (.int .i64 s.1))]) (fun s=>s.2)
  (fun s=>s.1≤l.length∧TP s.2 p (bs++catB vecB (l.take s.1))∧Keep p H s.2) (fun ⟨i,G⟩ ⟨hi,hT,hK⟩ r=>?_) (0,H) ⟨Nat.zero_le _,by simpa [catB] using ht,Keep.refl p H⟩ ⟨rfl,rfl,rfl,rfl,trivial⟩ rfl
 dsimp only at hi hT hK ⊢
 refine ah (fun hc=>?_) (fun hc=>?_)
 ·have hlt:i<l.length:=by omega
  obtain ⟨v,hg⟩:∃ c,l[i]? = some c:=⟨_,List.getElem?_eq_getElem hlt⟩
  have hvr:=hv v (List.mem_of_getElem? hg)
  obtain ⟨g1,g2⟩:=aR vc_len hg
  have hbl:=bu (f:=vecB) (b:=30) (l:=l.take i) (fun w hw=>vecB_len (hv w (List.mem_of_mem_take hw)))
  rw [List.length_take] at hbl
  refine aa (by (first | rfl | (simp; done) | (simp; omega))) ?_
  refine ae g1 g2 ?_
  refine af ?_
  refine aa rfl ?_
  refine a9 (vc v) rfl ?_
  rw [aH]
  refine af ?_
  refine ab (v:=.int .i64 v.c) rfl ?_
  refine af ?_
  refine ab (v:=.int .i64 v.m) rfl ?_
  refine af ?_
  refine ab (v:=.int .i64 v.h) rfl ?_
  have hT:=T.TP.grow hT [.pcells (vc v)]
  have hK:=hK.trans (Keep.app p G [.pcells (vc v)])
  generalize G++[.pcells (vc v)]=G at hT hK ⊢
  refine aw ?_
  refine aC (σ:=Nat × Heap) (fun s=>3-s.1) (fun s=>[(0,.ptr p 0),(8,.pv (.sl x l.length (flat vc l))),(9,.pv (.int .i64 l.length)),(10,.pv (.int .i64 i)),(20,.pv (.sl .nnx 3 (ints (vl3 v)))),(21,.pv (.int .i64 3)),(22,.pv (.int .i64 s.1))]) (fun s=>s.2)
   (fun s=>s.1≤3∧TP s.2 p (bs++catB vecB (l.take i)++catB num ((vl3 v).take s.1))∧Keep p H s.2) (fun ⟨m,G⟩ ⟨hm,hT,hK⟩ r=>?_) (0,G) ⟨Nat.zero_le _,by simpa [catB] using hT,hK⟩ ⟨rfl,rfl,rfl,rfl,rfl,rfl,rfl,trivial⟩ rfl
  dsimp only at hm hT hK ⊢
  refine ah (fun hc2=>?_) (fun hc2=>?_)
  ·have hlt2:m<(vl3 v).length:=by show m<3; omega
   obtain ⟨n,hn⟩:∃ c,(vl3 v)[m]? = some c:=⟨_,List.getElem?_eq_getElem hlt2⟩
   have hnok:=vR_nok hvr n (List.mem_of_getElem? hn)
   have hbl2:=bu (f:=num) (b:=10) (l:=(vl3 v).take m) (fun w hw=>bv (vR_nok hvr w (List.mem_of_mem_take hw)))
   rw [List.length_take] at hbl2
   refine aa (by (first | rfl | (simp; done) | (simp; omega))) ?_
   refine ab (v:=.int .i64 n) (by rw [aG,Nat.mul_one]; exact ints_get hn) ?_
   refine a9 _ (u64n hnok) ?_
   refine am ((T.number_ok p n.toNat (nok_lt hnok) _ (by simp only [List.length_append]; have:(vl3 v).length=3:=rfl; omega) G hT).mono fun y hy=>?_)
   refine ba ?_
   refine a9 _ (aq (by omega)) ?_
   refine Has.intro ⟨(m+1,y.2),⟨hlt2,?_,hK.trans hy.2⟩,(by dsimp only; omega),⟨rfl,rfl,rfl,rfl,rfl,rfl,rfl,trivial⟩,rfl⟩
   dsimp only
   rw [catB_step num hn,←List.append_assoc]
   exact hy.1
  ·have:m=3:=by omega
   subst this
   refine Has.intro ?_
   refine a9 _ (aq (by omega)) ?_
   refine Has.intro ⟨(i+1,G),⟨hlt,?_,hK⟩,(by dsimp only; omega),⟨rfl,rfl,rfl,rfl,trivial⟩,rfl⟩
   dsimp only
   rw [catB_step vecB hg,←List.append_assoc]
   exact hT
 ·have:i=l.length:=by omega
  subst this
  rw [List.take_length] at hT
  exact Has.intro (Has.intro ⟨hT,hK⟩)
end Go.Proofs.YtflfdglnelbbiaaGreat
namespace Go.Proofs.YtflfdglnelbbiaaGreat
open Go Go.VM
theorem rt {l:List UInt8} (h:l.length≤16):EP (EE env) 51 [sv l]=some (sv (txt l)):=T.rtext_ok l (by omega)
theorem rn {n:Int} (h:nok n):EP (EE env) 50 [.int .u64 ((n.toNat:Nat):Int)]=some (sv (num n)):=T.rnumber_ok n.toNat (nok_lt h)
theorem rl {k:Nat} (h:k≤1000000):EP (EE env) 50 [.int .u64 (k:Int)]=some (sv (T.enc k)):=T.rnumber_ok k (by omega)
theorem rf (b:Bool):EP (EE env) 53 [.bool b]=some (sv (flg b)):=T.rflag_ok b
theorem u64k {k:Nat} (h:k≤9223372036854775807):IntKind.u64.wrap (k:Int)=(k:Int):=by rw [aL]; omega
theorem rvec_ok {v:Vc} (h:vR v):EP (EE env) 54 [.agg (vc v)]=some (sv (vecB v)):=by
 have n1:=vR_nok h v.c (by simp [vl3])
 have n2:=vR_nok h v.m (by simp [vl3])
 have n3:=vR_nok h v.h (by simp [vl3])
 have l1:=bv n1
 have l2:=bv n2
 have l3:=bv n3
 refine Has.eq (aE ?_)
 (refine a8 _ rfl ?_)
 refine ab (v:=.int .i64 v.c) rfl ?_
 refine a9 _ (u64n n1) ?_
 refine aj (rn n1) ?_
 (refine a8 _ rfl ?_)
 refine ab (v:=.int .i64 v.m) rfl ?_
 refine a9 _ (u64n n2) ?_
 refine aj (rn n2) ?_
 (refine aa (by rw [decide_eq_true_iff,ay,ay]; (try simp only [List.length_append]); omega) ?_; refine a9 _ (sv_app _ _) ?_)
 (refine a8 _ rfl ?_)
 refine ab (v:=.int .i64 v.h) rfl ?_
 refine a9 _ (u64n n3) ?_
 refine aj (rn n3) ?_
 (refine aa (by rw [decide_eq_true_iff,ay,ay]; (try simp only [List.length_append]); omega) ?_; refine a9 _ (sv_app _ _) ?_)
 refine Has.intro (Has.intro (congrArg (fun l=>sv l) ?_))
 simp [vecB,catB,vl3]
set_option maxHeartbeats 4000000 in
theorem rput_ok (s:St) (x y:Ext) (hs:smallS s) (hr:rightP s) (h400:s.hs.length≤400):EP (EE env) 29 [.agg (stc s x y)]=some (sv (putB s)):=by
 obtain ⟨_,_,_,h8⟩:=hs
 obtain ⟨r1,r2,r3,r4⟩:=hr
 have nn:nok s.next:=by unfold nok; omega
 have l1:=bv nn
 have l2:=len_enc (n:=s.es.length) (by omega)
 have l3:=len_enc (n:=s.hs.length) (by omega)
 have leq:∀ i,(catB entB (s.es.take i)).length≤20000:=fun i=>by
  have:=bu (f:=entB) (b:=1200) (l:=s.es.take i) (fun e he=>by
   obtain ⟨j,hj⟩:=List.getElem?_of_mem (List.mem_of_mem_take he)
   exact entB_len (r3 j e hj).1)
  rw [List.length_take] at this; omega
 have lhq:∀ i,(catB hoB (s.hs.take i)).length≤60000:=fun i=>by
  have:=bu (f:=hoB) (b:=150) (l:=s.hs.take i) (fun e he=>by
   have hm:=List.mem_of_mem_take he
   obtain ⟨j,hj⟩:=List.getElem?_of_mem hm
   exact hoB_len r3 (r4 j e hj).1 (h8 e hm))
  rw [List.length_take] at this; omega
 refine Has.eq (aE ?_)
 (refine a8 _ rfl ?_)
 refine ab (v:=.int .i64 s.next) rfl ?_
 refine a9 _ (u64n nn) ?_
 refine aj (rn nn) ?_
 (refine a8 _ rfl ?_)
 refine ab (v:=.sl x s.es.length (flat en s.es)) rfl ?_
 refine a9 _ (u64k (by omega)) ?_
 refine aj (rl (by omega)) ?_
 (refine aa (by rw [decide_eq_true_iff,ay,ay]; (try simp only [List.length_append]); omega) ?_; refine a9 _ (sv_app _ _) ?_)
 (refine a8 _ rfl ?_)
 refine ab (v:=.sl x s.es.length (flat en s.es)) rfl ?_
 refine aw ?_
 generalize hB1:num s.next++T.enc s.es.length=B1
 have lB1:B1.length≤20:=by rw [←hB1,List.length_append]; omega
 refine aW (σ:=Nat) (fun i=>s.es.length-i) (fun i=>[(1,.ptr 0 0),(3,.pv (sv (B1++catB entB (s.es.take i)))),(24,.pv (.sl x s.es.length (flat en s.es))),(25,.pv (.int .i64 s.es.length)),(26,.pv (.int .i64 i))]) (fun _=>[.pcells (stc s x y)])
  (fun i=>i≤s.es.length) (fun i hi r J=>?_) 0 (Nat.zero_le _) [] ⟨rfl,by simp [catB]; rfl,rfl,rfl,rfl,trivial⟩ rfl
 refine ah (fun hc=>?_) (fun hc=>?_)
 ·have hlt:i<s.es.length:=by omega
  obtain ⟨e,hg⟩:∃ c,s.es[i]? = some c:=⟨_,List.getElem?_eq_getElem hlt⟩
  obtain ⟨g1,g2⟩:=aR en_len hg
  have hE:=(r3 i e hg).1
  have pn:=pod_names hE.1
  have hll:e.d.l.length=e.a.l.length:=hE.2.2.1.2.2.2.1
  refine aa (by (first | rfl | (simp; done) | (simp; omega))) ?_
  refine ae g1 g2 ?_
  refine af ?_
  refine aa rfl ?_
  refine a9 (en e) rfl ?_
  rw [aH]
  have k5:=ak ([HObj.pcells (stc s x y)]++J) (HObj.pcells (en e))
  have hH:([HObj.pcells (stc s x y)]++J)++[HObj.pcells (en e)]=[HObj.pcells (stc s x y)]++(J++[HObj.pcells (en e)]):=rfl
  rw [hH] at k5 ⊢
  generalize ([HObj.pcells (stc s x y)]++J).length=q at k5 ⊢
  generalize J++[HObj.pcells (en e)]=J at k5 ⊢
  have npol:nok e.d.pol:=by have:=hE.1.2.2.1; unfold nok; omega
  have nage:nok e.age:=by have:=hE.2.2.2.2.1; unfold nok; omega
  have ndue:nok e.due:=by have:=due_le hE; have:=hE.2.2.2.2.2.1; unfold nok; omega
  have prio:=hE.1.2.1
  have zl:=T.enc_ten (T.zn_lt (n:=e.d.prio) (by omega) (by omega)).1
  have a1:=txt_len pn.1
  have a2:=bv npol
  have a3:=bv nage
  have a4:=bv ndue
  have a5:=len_enc (n:=e.d.l.length) (by omega)
  have a6:=leq i
  refine a8 _ k5 ?_
  refine ab (v:=sv e.d.name) rfl ?_
  refine aj (rt pn.1) ?_
  refine a8 _ k5 ?_
  refine ab (v:=.int .i64 e.d.prio) rfl ?_
  refine aj (T.rsigned_ok e.d.prio (by omega) (by omega)) ?_
  (refine aa (by rw [decide_eq_true_iff,ay,ay]; (try simp only [List.length_append]); omega) ?_; refine a9 _ (sv_app _ _) ?_)
  refine a8 _ k5 ?_
  refine ab (v:=.int .i64 e.d.pol) rfl ?_
  refine a9 _ (u64n npol) ?_
  refine aj (rn npol) ?_
  (refine aa (by rw [decide_eq_true_iff,ay,ay]; (try simp only [List.length_append]); omega) ?_; refine a9 _ (sv_app _ _) ?_)
  refine a8 _ k5 ?_
  refine ab (v:=.sl e.dx e.d.l.length (flat ct e.d.l)) rfl ?_
  refine a9 _ (u64k (by omega)) ?_
  refine aj (rl (by omega)) ?_
  (refine aa (by rw [decide_eq_true_iff,ay,ay]; (try simp only [List.length_append]); omega) ?_; refine a9 _ (sv_app _ _) ?_)
  (refine aa (by rw [decide_eq_true_iff,ay,ay]; (try simp only [List.length_append]); omega) ?_; refine a9 _ (sv_app _ _) ?_)
  refine a8 _ k5 ?_
  refine ab (v:=.sl e.dx e.d.l.length (flat ct e.d.l)) rfl ?_
  generalize hB2:B1++catB entB (s.es.take i)++(txt e.d.name++T.enc (T.zn e.d.prio)++num e.d.pol++T.enc e.d.l.length)=B2
  have lB2:B2.length≤21000:=by rw [←hB2]; simp only [List.length_append]; omega
  have lcq:∀ j,(catB ctB ((e.d.l.zip e.a.l).take j)).length≤2000:=fun j=>by
   have:=bu (f:=ctB) (b:=180) (l:=(e.d.l.zip e.a.l).take j) (fun x hx=>ctB_len (zip_cP hE x (List.mem_of_mem_take hx)).1 (zip_cP hE x (List.mem_of_mem_take hx)).2)
   rw [List.length_take,List.length_zip] at this; omega
  refine aw ?_
  refine aW (σ:=Nat) (fun j=>e.d.l.length-j) (fun j=>[(1,.ptr 0 0),(5,.ptr q 0),(3,.pv (sv (B2++catB ctB ((e.d.l.zip e.a.l).take j)))),(24,.pv (.sl x s.es.length (flat en s.es))),(25,.pv (.int .i64 s.es.length)),(26,.pv (.int .i64 i)),(56,.pv (.sl e.dx e.d.l.length (flat ct e.d.l))),(57,.pv (.int .i64 e.d.l.length)),(58,.pv (.int .i64 j))]) (fun _=>[.pcells (stc s x y)]++J)
   (fun j=>j≤e.d.l.length) (fun j hj r J'=>?_) 0 (Nat.zero_le _) [] ⟨rfl,rfl,by simp [catB]; rfl,rfl,rfl,rfl,rfl,rfl,rfl,trivial⟩ (List.append_nil _).symm
  refine ah (fun hc2=>?_) (fun hc2=>?_)
  ·have hlt2:j<e.d.l.length:=by omega
   obtain ⟨c,hcg⟩:∃ c,e.d.l[j]? = some c:=⟨_,List.getElem?_eq_getElem hlt2⟩
   obtain ⟨d,hdg⟩:∃ c,e.a.l[j]? = some c:=⟨_,List.getElem?_eq_getElem (by omega)⟩
   have hz:(e.d.l.zip e.a.l)[j]? = some (c,d):=by rw [List.getElem?_zip_eq_some]; exact ⟨hcg,hdg⟩
   obtain ⟨f1,f2⟩:=aR ct_len hcg
   obtain ⟨f3,f4⟩:=aR ct_len hdg
   have c1:cP c:=(hE.1.2.2.2.2.1 j c hcg).2
   have c2:cP d:=(hE.2.1.2.2.2.2.1 j d hdg).2
   have v4:=four_vR c1 c2
   have w1:=vecB_len (v4 c.rq (by simp))
   have w2:=vecB_len (v4 c.lm (by simp))
   have w3:=vecB_len (v4 d.rq (by simp))
   have w4:=vecB_len (v4 d.lm (by simp))
   have w5:=txt_len (l:=c.name) (by have:=nameB_len c1.1; omega)
   have w6:=flg_len c.r0
   have w7:=flg_len c.r1
   have w8:=flg_len c.r2
   have w9:=lcq j
   refine aa (by (first | rfl | (simp; done) | (simp; omega))) ?_
   refine ae f1 f2 ?_
   refine af ?_
   refine aa rfl ?_
   refine a9 (ct c) rfl ?_
   rw [aH]
   have k5':hget ([HObj.pcells (stc s x y)]++J++J'++[HObj.pcells (ct c)]) q = .pcells (en e):=by
    rw [List.append_assoc]; exact (aA _ (ap k5 (by intro h; cases h))).trans k5
   refine a8 _ k5' ?_
   refine ab (v:=.sl e.ax e.a.l.length (flat ct e.a.l)) rfl ?_
   refine aa (by (first | rfl | (simp; done) | (simp; omega))) ?_
   refine ae f3 f4 ?_
   refine af ?_
   refine aa rfl ?_
   refine a9 (ct d) rfl ?_
   rw [aH]
   have k7:hget ([HObj.pcells (stc s x y)]++J++J'++[HObj.pcells (ct c)]++[HObj.pcells (ct d)]) ([HObj.pcells (stc s x y)]++J++J').length = .pcells (ct c):=(aA _ (by simp)).trans (ak _ _)
   generalize ([HObj.pcells (stc s x y)]++J++J').length=q7 at k7 ⊢
   refine a8 _ k7 ?_
   refine ab (v:=sv c.name) rfl ?_
   refine aj (rt (by have:=nameB_len c1.1; omega)) ?_
   refine aa rfl ?_
   refine a8 _ k7 ?_
   refine ab (v:=.bool c.r0) rfl ?_
   refine aj (rf c.r0) ?_
   (refine aa (by rw [decide_eq_true_iff,ay,ay]; (try simp only [List.length_append]); omega) ?_; refine a9 _ (sv_app _ _) ?_)
   refine aa rfl ?_
   refine a8 _ k7 ?_
   refine ab (v:=.bool c.r1) rfl ?_
   refine aj (rf c.r1) ?_
   (refine aa (by rw [decide_eq_true_iff,ay,ay]; (try simp only [List.length_append]); omega) ?_; refine a9 _ (sv_app _ _) ?_)
   refine aa rfl ?_
   refine a8 _ k7 ?_
   refine ab (v:=.bool c.r2) rfl ?_
   refine aj (rf c.r2) ?_
   (refine aa (by rw [decide_eq_true_iff,ay,ay]; (try simp only [List.length_append]); omega) ?_; refine a9 _ (sv_app _ _) ?_)
   (refine aa (by rw [decide_eq_true_iff,ay,ay]; (try simp only [List.length_append]); omega) ?_; refine a9 _ (sv_app _ _) ?_)
   refine a8 _ k7 ?_
   refine ae (v:=vc c.rq) rfl (of_decide_eq_true rfl) ?_
   refine aj (rvec_ok (v4 c.rq (by simp))) ?_
   refine a8 _ k7 ?_
   refine ae (v:=vc c.lm) rfl (of_decide_eq_true rfl) ?_
   refine aj (rvec_ok (v4 c.lm (by simp))) ?_
   (refine aa (by rw [decide_eq_true_iff,ay,ay]; (try simp only [List.length_append]); omega) ?_; refine a9 _ (sv_app _ _) ?_)
   refine af ?_
   refine ae (v:=vc d.rq) rfl (of_decide_eq_true rfl) ?_
   refine aj (rvec_ok (v4 d.rq (by simp))) ?_
   (refine aa (by rw [decide_eq_true_iff,ay,ay]; (try simp only [List.length_append]); omega) ?_; refine a9 _ (sv_app _ _) ?_)
   refine af ?_
   refine ae (v:=vc d.lm) rfl (of_decide_eq_true rfl) ?_
   refine aj (rvec_ok (v4 d.lm (by simp))) ?_
   (refine aa (by rw [decide_eq_true_iff,ay,ay]; (try simp only [List.length_append]); omega) ?_; refine a9 _ (sv_app _ _) ?_)
   (refine aa (by rw [decide_eq_true_iff,ay,ay]; (try simp only [List.length_append]); omega) ?_; refine a9 _ (sv_app _ _) ?_)
   refine a9 _ (aq (by omega)) ?_
   refine Has.intro ⟨j+1,hlt2,by omega,⟨rfl,rfl,?_,rfl,rfl,rfl,rfl,rfl,rfl,trivial⟩,J'++[HObj.pcells (ct c)]++[HObj.pcells (ct d)],by simp⟩
   rw [catB_step ctB hz]
   show AV.pv (sv _)=AV.pv (sv _)
   congr 2
   simp [ctB,catB,fl3]
  ·have:j=e.d.l.length:=by omega
   subst this
   have w9:=lcq e.d.l.length
   have k5':hget ([HObj.pcells (stc s x y)]++J++J') q = .pcells (en e):=(aA _ (ap k5 (by intro h; cases h))).trans k5
   refine Has.intro ?_
   refine a8 _ k5' ?_
   refine ab (v:=.int .i64 e.age) rfl ?_
   refine a9 _ (u64n nage) ?_
   refine aj (rn nage) ?_
   refine a8 _ k5' ?_
   refine ab (v:=.int .i64 e.due) rfl ?_
   refine a9 _ (u64n ndue) ?_
   refine aj (rn ndue) ?_
   (refine aa (by rw [decide_eq_true_iff,ay,ay]; (try simp only [List.length_append]); omega) ?_; refine a9 _ (sv_app _ _) ?_)
   (refine aa (by rw [decide_eq_true_iff,ay,ay]; (try simp only [List.length_append]); omega) ?_; refine a9 _ (sv_app _ _) ?_)
   refine a9 _ (aq (by omega)) ?_
   refine Has.intro ⟨i+1,hlt,by omega,⟨rfl,?_,rfl,rfl,rfl,trivial⟩,J++J',by simp⟩
   rw [catB_step entB hg]
   show AV.pv (sv _)=AV.pv (sv _)
   have ht:(e.d.l.zip e.a.l).take e.d.l.length=e.d.l.zip e.a.l:=List.take_of_length_le (by rw [List.length_zip]; omega)
   rw [ht,←hB2]
   congr 2
   simp [entB]
 have:i=s.es.length:=by omega
 subst this
 rw [List.take_length]
 have a6:=leq s.es.length
 rw [List.take_length] at a6
 refine Has.intro ?_
 (refine a8 _ rfl ?_)
 refine ab (v:=.sl y s.hs.length (flat hoc s.hs)) rfl ?_
 refine a9 _ (u64k (by omega)) ?_
 refine aj (rl (by omega)) ?_
 (refine aa (by rw [decide_eq_true_iff,ay,ay]; (try simp only [List.length_append]); omega) ?_; refine a9 _ (sv_app _ _) ?_)
 (refine a8 _ rfl ?_)
 refine ab (v:=.sl y s.hs.length (flat hoc s.hs)) rfl ?_
 generalize hB3:B1++catB entB s.es++T.enc s.hs.length=B3
 have lB3:B3.length≤21000:=by rw [←hB3]; simp only [List.length_append]; omega
 refine aw ?_
 refine aW (σ:=Nat) (fun i=>s.hs.length-i) (fun i=>[(1,.ptr 0 0),(3,.pv (sv (B3++catB hoB (s.hs.take i)))),(127,.pv (.sl y s.hs.length (flat hoc s.hs))),(128,.pv (.int .i64 s.hs.length)),(129,.pv (.int .i64 i))]) (fun _=>[.pcells (stc s x y)])
  (fun i=>i≤s.hs.length) (fun i hi r J=>?_) 0 (Nat.zero_le _) J ⟨rfl,by simp [catB]; rfl,rfl,rfl,rfl,trivial⟩ rfl
 refine ah (fun hc=>?_) (fun hc=>?_)
 ·have hlt:i<s.hs.length:=by omega
  obtain ⟨h,hg⟩:∃ c,s.hs[i]? = some c:=⟨_,List.getElem?_eq_getElem hlt⟩
  obtain ⟨g1,g2⟩:=hs_get h8 hg
  have hh8:=h8 h (List.mem_of_getElem? hg)
  have hh11:=hoc_len hh8
  have hH:=(r4 i h hg).1
  obtain ⟨n1,n2⟩:=hold_names r3 hH
  have nk:nok h.o.kind:=by have:=hH.2.1; have:=hH.2.2.1; unfold nok; omega
  have b1:=txt_len n1
  have b2:=txt_len n2
  have b3:=bv nk
  have b4:=lhq i
  refine aa (by (first | rfl | (simp; done) | (simp; omega))) ?_
  refine ae g1 g2 ?_
  refine af ?_
  refine aa (by rw [hh11]; rfl) ?_
  refine a9 (hoc h) (by simp) ?_
  rw [aH]
  refine af ?_
  refine ab (v:=sv h.o.pod) rfl ?_
  refine aj (rt n1) ?_
  refine af ?_
  refine ab (v:=sv h.o.ctr) rfl ?_
  refine aj (rt n2) ?_
  (refine aa (by rw [decide_eq_true_iff,ay,ay]; (try simp only [List.length_append]); omega) ?_; refine a9 _ (sv_app _ _) ?_)
  refine af ?_
  refine ab (v:=.int .i64 h.o.kind) rfl ?_
  refine a9 _ (u64n nk) ?_
  refine aj (rn nk) ?_
  (refine aa (by rw [decide_eq_true_iff,ay,ay]; (try simp only [List.length_append]); omega) ?_; refine a9 _ (sv_app _ _) ?_)
  (refine aa (by rw [decide_eq_true_iff,ay,ay]; (try simp only [List.length_append]); omega) ?_; refine a9 _ (sv_app _ _) ?_)
  have hsp:((hoc h).drop 3).take 8=h.sp.map (PV.int .i64):=by
   show (h.sp.map (PV.int .i64)).take 8=_
   rw [List.take_of_length_le (by simp [hh8])]
  refine af ?_
  refine ae hsp (by rw [hh11]; decide) ?_
  have spn:∀ n∈h.sp,nok n:=fun n hn=>by have:=hH.2.2.2.2.1 n hn; unfold nok; omega
  generalize hB4:B3++catB hoB (s.hs.take i)++(txt h.o.pod++txt h.o.ctr++num h.o.kind)=B4
  have lB4:B4.length≤90000:=by rw [←hB4]; simp only [List.length_append]; omega
  refine aw ?_
  refine aC (σ:=Nat) (fun m=>8-m) (fun m=>[(1,.ptr 0 0),(3,.pv (sv (B4++catB num (h.sp.take m)))),(127,.pv (.sl y s.hs.length (flat hoc s.hs))),(128,.pv (.int .i64 s.hs.length)),(129,.pv (.int .i64 i)),(151,.pv (.agg (h.sp.map (PV.int .i64)))),(152,.pv (.int .i64 m))]) (fun _=>[.pcells (stc s x y)]++J++[.pcells (hoc h)])
   (fun m=>m≤8) (fun m hm r=>?_) 0 (by decide) ⟨rfl,by simp [catB]; rfl,rfl,rfl,rfl,rfl,rfl,trivial⟩ rfl
  refine ah (fun hc2=>?_) (fun hc2=>?_)
  ·have hlt2:m<h.sp.length:=by omega
   obtain ⟨n,hng⟩:∃ c,h.sp[m]? = some c:=⟨_,List.getElem?_eq_getElem hlt2⟩
   have hnok:=spn n (List.mem_of_getElem? hng)
   have b5:=bv hnok
   have b6:=bu (f:=num) (b:=10) (l:=h.sp.take m) (fun w hw=>bv (spn w (List.mem_of_mem_take hw)))
   rw [List.length_take] at b6
   refine aa (by (first | rfl | (simp; done) | (simp; omega))) ?_
   refine ab (v:=.int .i64 n) (by rw [List.getElem?_map,show ((m:Nat):Int).toNat=m from rfl,hng]; rfl) ?_
   refine a9 _ (u64n hnok) ?_
   refine aj (rn hnok) ?_
   (refine aa (by rw [decide_eq_true_iff,ay,ay]; (try simp only [List.length_append]); omega) ?_; refine a9 _ (sv_app _ _) ?_)
   refine a9 _ (aq (by omega)) ?_
   refine Has.intro ⟨m+1,by omega,by omega,⟨rfl,?_,rfl,rfl,rfl,rfl,rfl,trivial⟩,rfl⟩
   rw [catB_step num hng,←List.append_assoc]
   rfl
  ·have:m=8:=by omega
   subst this
   refine Has.intro ?_
   refine a9 _ (aq (by omega)) ?_
   refine Has.intro ⟨i+1,hlt,by omega,⟨rfl,?_,rfl,rfl,rfl,trivial⟩,J++[.pcells (hoc h)],by simp⟩
   rw [catB_step hoB hg]
   show AV.pv (sv _)=AV.pv (sv _)
   rw [List.take_of_length_le (by omega),←hB4]
   congr 2
   simp [hoB]
 ·have:i=s.hs.length:=by omega
  subst this
  refine Has.intro (Has.intro (Has.intro ?_))
  show sv _=sv _
  rw [List.take_length,←hB3,←hB1]
  rfl
end Go.Proofs.YtflfdglnelbbiaaGreat
namespace Go.Proofs.YtflfdglnelbbiaaGreat
open Go Go.VM
theorem put_no (s:St) (x y:Ext) (hs:smallS s) (hr:¬ rightP s):EP (EE env) 38 [.agg (stc s x y)]=some (.sl .nil 0 []):=by
 refine Has.eq (aE ?_)
 (refine a8 _ rfl ?_)
 refine ae (v:=stc s x y) rfl (of_decide_eq_true rfl) ?_
 refine callPK_dec_f (right_ok' s x y hs) hr ?_
 exact Has.intro (Has.intro rfl)
def fls (c:Ct):List PV:=(fl3 c).map PV.bool
set_option maxHeartbeats 8000000 in
theorem put_ok' (s:St) (x y:Ext) (hs:smallS s) (hr:rightP s) (h400:s.hs.length≤400) :
 ∃ e,EP (EE env) 38 [.agg (stc s x y)]=some (.sl e (putB s).length (bc (putB s)))∧((e = .nil∧putB s=[])∨e = .nn∨e = .nnx):=by
 obtain ⟨_,_,_,h8⟩:=id hs
 obtain ⟨r1,r2,r3,r4⟩:=id hr
 have nn:nok s.next:=by unfold nok; omega
 have l1:=bv nn
 have l2:=len_enc (n:=s.es.length) (by omega)
 have l3:=len_enc (n:=s.hs.length) (by omega)
 have leq:∀ i,(catB entB (s.es.take i)).length≤20000:=fun i=>by
  have:=bu (f:=entB) (b:=1200) (l:=s.es.take i) (fun e he=>by
   obtain ⟨j,hj⟩:=List.getElem?_of_mem (List.mem_of_mem_take he)
   exact entB_len (r3 j e hj).1)
  rw [List.length_take] at this; omega
 have lhq:∀ i,(catB hoB (s.hs.take i)).length≤60000:=fun i=>by
  have:=bu (f:=hoB) (b:=150) (l:=s.hs.take i) (fun e he=>by
   have hm:=List.mem_of_mem_take he
   obtain ⟨j,hj⟩:=List.getElem?_of_mem hm
   exact hoB_len r3 (r4 j e hj).1 (h8 e hm))
  rw [List.length_take] at this; omega
 have main:Has (EP (EE env) 38 [.agg (stc s x y)]) (fun v=>∃ e,v = .sl e (putB s).length (bc (putB s))∧((e = .nil∧putB s=[])∨e = .nn∨e = .nnx)):=by
  refine aE ?_
  (refine a8 _ rfl ?_)
  refine ae (v:=stc s x y) rfl (of_decide_eq_true rfl) ?_
  refine callPK_dec_t (right_ok' s x y hs) hr ?_
  (refine a8 _ rfl ?_)
  refine ab (v:=.int .i64 s.next) rfl ?_
  refine a9 _ (u64n nn) ?_
  refine am ((T.number_ok 1 s.next.toNat (nok_lt nn) [] (by simp) _ ⟨.pv (.sl .nil 0 []),rfl,AppV.new rfl⟩).mono fun z hz=>?_)
  have k0:hget [HObj.pcells (stc s x y),.pcells [.sl .nil 0 []]] 0 = .pcells (stc s x y):=rfl
  (refine ba ?_; obtain ⟨zv,G⟩:=z; obtain ⟨hT,hkp⟩:=hz; dsimp only at hT hkp ⊢; have k0:=hkp.2 0 _ (by decide) k0 (by intro h; cases h) (fun _ _ h=>by cases h))
  (refine a8 _ k0 ?_)
  refine ab (v:=.sl x s.es.length (flat en s.es)) rfl ?_
  refine a9 _ (u64k (by omega)) ?_
  refine am ((T.number_ok 1 s.es.length (by omega) _ (by rw [List.nil_append]; have:(T.enc s.next.toNat).length≤10:=l1; omega) G hT).mono fun z hz=>?_)
  (refine ba ?_; obtain ⟨zv,G⟩:=z; obtain ⟨hT,hkp⟩:=hz; dsimp only at hT hkp ⊢; have k0:=hkp.2 0 _ (by decide) k0 (by intro h; cases h) (fun _ _ h=>by cases h))
  (refine a8 _ k0 ?_)
  refine ab (v:=.sl x s.es.length (flat en s.es)) rfl ?_
  rw [List.nil_append] at hT
  have hB1:num s.next++T.enc s.es.length=T.enc s.next.toNat++T.enc s.es.length:=rfl
  rw [←hB1] at hT
  clear hB1
  generalize hB1:num s.next++T.enc s.es.length=B1 at hT
  have lB1:B1.length≤20:=by rw [←hB1,List.length_append]; omega
  refine aw ?_
  refine aC (σ:=Nat × Heap) (fun t=>s.es.length-t.1) (fun t=>[(1,.ptr 0 0),(3,.ptr 1 0),(32,.pv (.sl x s.es.length (flat en s.es))),(33,.pv (.int .i64 s.es.length)),(34,.pv (.int .i64 t.1))]) (fun t=>t.2)
   (fun t=>t.1≤s.es.length∧TP t.2 1 (B1++catB entB (s.es.take t.1))∧hget t.2 0 = .pcells (stc s x y)) (fun ⟨i,G⟩ ⟨hi,hT,k0⟩ r=>?_) (0,G) ⟨Nat.zero_le _,by simpa [catB] using hT,k0⟩ ⟨rfl,rfl,rfl,rfl,rfl,trivial⟩ rfl
  dsimp only at hi hT k0 ⊢
  refine ah (fun hc=>?_) (fun hc=>?_)
  ·have hlt:i<s.es.length:=by omega
   obtain ⟨e,hg⟩:∃ c,s.es[i]? = some c:=⟨_,List.getElem?_eq_getElem hlt⟩
   obtain ⟨g1,g2⟩:=aR en_len hg
   have hE:=(r3 i e hg).1
   have pn:=pod_names hE.1
   have hll:e.d.l.length=e.a.l.length:=hE.2.2.1.2.2.2.1
   have npol:nok e.d.pol:=by have:=hE.1.2.2.1; unfold nok; omega
   have nage:nok e.age:=by have:=hE.2.2.2.2.1; unfold nok; omega
   have ndue:nok e.due:=by have:=due_le hE; have:=hE.2.2.2.2.2.1; unfold nok; omega
   have prio:=hE.1.2.1
   have zl:=T.enc_ten (T.zn_lt (n:=e.d.prio) (by omega) (by omega)).1
   have a1:=txt_len pn.1
   have a2:=bv npol
   have a3:=bv nage
   have a4:=bv ndue
   have a5:=len_enc (n:=e.d.l.length) (by omega)
   have a6:=leq i
   refine aa (by (first | rfl | (simp; done) | (simp; omega))) ?_
   refine ae g1 g2 ?_
   refine af ?_
   refine aa rfl ?_
   refine a9 (en e) rfl ?_
   rw [aH]
   obtain ⟨q,hq⟩:∃ q,q=G.length:=⟨_,rfl⟩
   have hq1:q≠1:=by have:=T.TP.len hT; omega
   have k5:hget (G++[.pcells (en e)]) q = .pcells (en e):=by rw [hq]; exact ak G _
   have k0:=(aA [.pcells (en e)] (ap k0 ((by intro h; cases h)))).trans k0
   have hT:=T.TP.grow hT [.pcells (en e)]
   rw [←hq]
   generalize G++[.pcells (en e)]=G at k5 k0 hT ⊢
   (refine a8 _ k5 ?_)
   refine ab (v:=sv e.d.name) rfl ?_
   refine am ((T.text_ok 1 e.d.name (by omega) _ (by simp only [List.length_append]; omega) G hT).mono fun z hz=>?_)
   (refine ba ?_; obtain ⟨zv,G⟩:=z; obtain ⟨hT,hkp⟩:=hz; dsimp only at hT hkp ⊢; have k0:=hkp.2 0 _ (by decide) k0 (by intro h; cases h) (fun _ _ h=>by cases h))
   (have k5:=hkp.2 q _ hq1 k5 (by intro h; cases h) (fun _ _ h=>by cases h))
   rw [List.append_assoc (B1++_),show T.enc e.d.name.length++e.d.name=txt e.d.name from rfl] at hT
   (refine a8 _ k5 ?_)
   refine ab (v:=.int .i64 e.d.prio) rfl ?_
   refine am ((T.signed_ok 1 e.d.prio (by omega) (by omega) _ (by simp only [List.length_append]; omega) G hT).mono fun z hz=>?_)
   (refine ba ?_; obtain ⟨zv,G⟩:=z; obtain ⟨hT,hkp⟩:=hz; dsimp only at hT hkp ⊢; have k0:=hkp.2 0 _ (by decide) k0 (by intro h; cases h) (fun _ _ h=>by cases h))
   (have k5:=hkp.2 q _ hq1 k5 (by intro h; cases h) (fun _ _ h=>by cases h))
   (refine a8 _ k5 ?_)
   refine ab (v:=.int .i64 e.d.pol) rfl ?_
   refine a9 _ (u64n npol) ?_
   refine am ((T.number_ok 1 e.d.pol.toNat (nok_lt npol) _ (by simp only [List.length_append]; omega) G hT).mono fun z hz=>?_)
   (refine ba ?_; obtain ⟨zv,G⟩:=z; obtain ⟨hT,hkp⟩:=hz; dsimp only at hT hkp ⊢; have k0:=hkp.2 0 _ (by decide) k0 (by intro h; cases h) (fun _ _ h=>by cases h))
   (have k5:=hkp.2 q _ hq1 k5 (by intro h; cases h) (fun _ _ h=>by cases h))
   rw [show T.enc e.d.pol.toNat=num e.d.pol from rfl] at hT
   (refine a8 _ k5 ?_)
   refine ab (v:=.sl e.dx e.d.l.length (flat ct e.d.l)) rfl ?_
   refine a9 _ (u64k (by omega)) ?_
   refine am ((T.number_ok 1 e.d.l.length (by omega) _ (by simp only [List.length_append]; omega) G hT).mono fun z hz=>?_)
   (refine ba ?_; obtain ⟨zv,G⟩:=z; obtain ⟨hT,hkp⟩:=hz; dsimp only at hT hkp ⊢; have k0:=hkp.2 0 _ (by decide) k0 (by intro h; cases h) (fun _ _ h=>by cases h))
   (have k5:=hkp.2 q _ hq1 k5 (by intro h; cases h) (fun _ _ h=>by cases h))
   (refine a8 _ k5 ?_)
   refine ab (v:=.sl e.dx e.d.l.length (flat ct e.d.l)) rfl ?_
   generalize hB2:B1++catB entB (s.es.take i)++txt e.d.name++T.enc (T.zn e.d.prio)++num e.d.pol++T.enc e.d.l.length=B2 at hT
   have lB2:B2.length≤21000:=by rw [←hB2]; simp only [List.length_append]; omega
   have lcq:∀ j,(catB ctB ((e.d.l.zip e.a.l).take j)).length≤2000:=fun j=>by
    have:=bu (f:=ctB) (b:=180) (l:=(e.d.l.zip e.a.l).take j) (fun x hx=>ctB_len (zip_cP hE x (List.mem_of_mem_take hx)).1 (zip_cP hE x (List.mem_of_mem_take hx)).2)
    rw [List.length_take,List.length_zip] at this; omega
   refine aw ?_
   refine aC (σ:=Nat × Heap) (fun t=>e.d.l.length-t.1) (fun t=>[(1,.ptr 0 0),(3,.ptr 1 0),(5,.ptr q 0),(32,.pv (.sl x s.es.length (flat en s.es))),(33,.pv (.int .i64 s.es.length)),(34,.pv (.int .i64 i)),(63,.pv (.sl e.dx e.d.l.length (flat ct e.d.l))),(64,.pv (.int .i64 e.d.l.length)),(65,.pv (.int .i64 t.1))]) (fun t=>t.2)
    (fun t=>t.1≤e.d.l.length∧TP t.2 1 (B2++catB ctB ((e.d.l.zip e.a.l).take t.1))∧hget t.2 0 = .pcells (stc s x y)∧hget t.2 q = .pcells (en e)) (fun ⟨j,G⟩ ⟨hj,hT,k0,k5⟩ r=>?_) (0,G) ⟨Nat.zero_le _,by simpa [catB] using hT,k0,k5⟩ ⟨rfl,rfl,rfl,rfl,rfl,rfl,rfl,rfl,rfl,trivial⟩ rfl
   dsimp only at hj hT k0 k5 ⊢
   refine ah (fun hc2=>?_) (fun hc2=>?_)
   ·have hlt2:j<e.d.l.length:=by omega
    obtain ⟨c,hcg⟩:∃ c,e.d.l[j]? = some c:=⟨_,List.getElem?_eq_getElem hlt2⟩
    obtain ⟨d,hdg⟩:∃ c,e.a.l[j]? = some c:=⟨_,List.getElem?_eq_getElem (by omega)⟩
    have hz:(e.d.l.zip e.a.l)[j]? = some (c,d):=by rw [List.getElem?_zip_eq_some]; exact ⟨hcg,hdg⟩
    obtain ⟨f1,f2⟩:=aR ct_len hcg
    obtain ⟨f3,f4⟩:=aR ct_len hdg
    have c1:cP c:=(hE.1.2.2.2.2.1 j c hcg).2
    have c2:cP d:=(hE.2.1.2.2.2.2.1 j d hdg).2
    have v4:=four_vR c1 c2
    have cn:=nameB_len c1.1
    have w5:=txt_len (l:=c.name) (by omega)
    have w9:=lcq j
    refine aa (by (first | rfl | (simp; done) | (simp; omega))) ?_
    refine ae f1 f2 ?_
    refine af ?_
    refine aa rfl ?_
    refine a9 (ct c) rfl ?_
    rw [aH]
    obtain ⟨q7,hq'⟩:∃ q,q=G.length:=⟨_,rfl⟩
    have hq7:q7≠1:=by have:=T.TP.len hT; omega
    have k7:hget (G++[.pcells (ct c)]) q7 = .pcells (ct c):=by rw [hq']; exact ak G _
    have k0:=(aA [.pcells (ct c)] (ap k0 ((by intro h; cases h)))).trans k0
    have k5:=(aA [.pcells (ct c)] (ap k5 ((by intro h; cases h)))).trans k5
    have hT:=T.TP.grow hT [.pcells (ct c)]
    rw [←hq']
    generalize G++[.pcells (ct c)]=G at k5 k0 k7 hT ⊢
    (refine a8 _ k7 ?_)
    refine ab (v:=sv c.name) rfl ?_
    refine am ((T.text_ok 1 c.name (by omega) _ (by simp only [List.length_append]; omega) G hT).mono fun z hz=>?_)
    (refine ba ?_; obtain ⟨zv,G⟩:=z; obtain ⟨hT,hkp⟩:=hz; dsimp only at hT hkp ⊢; have k0:=hkp.2 0 _ (by decide) k0 (by intro h; cases h) (fun _ _ h=>by cases h))
    (have k5:=hkp.2 q _ hq1 k5 (by intro h; cases h) (fun _ _ h=>by cases h))
    (have k7:=hkp.2 q7 _ hq7 k7 (by intro h; cases h) (fun _ _ h=>by cases h))
    rw [List.append_assoc (B2++_),show T.enc c.name.length++c.name=txt c.name from rfl] at hT
    (refine a8 _ k7 ?_)
    refine ae (v:=fls c) rfl (of_decide_eq_true rfl) ?_
    generalize hB3:B2++catB ctB ((e.d.l.zip e.a.l).take j)++txt c.name=B3 at hT
    have lB3:B3.length≤23100:=by rw [←hB3]; simp only [List.length_append]; omega
    refine aw ?_
    refine aC (σ:=Nat × Heap) (fun t=>3-t.1) (fun t=>[(1,.ptr 0 0),(3,.ptr 1 0),(5,.ptr q 0),(6,.pv (.int .i64 j)),(7,.ptr q7 0),(32,.pv (.sl x s.es.length (flat en s.es))),(33,.pv (.int .i64 s.es.length)),(34,.pv (.int .i64 i)),(63,.pv (.sl e.dx e.d.l.length (flat ct e.d.l))),(64,.pv (.int .i64 e.d.l.length)),(65,.pv (.int .i64 j)),(75,.pv (.agg (fls c))),(76,.pv (.int .i64 t.1))]) (fun t=>t.2)
     (fun t=>t.1≤3∧TP t.2 1 (B3++catB flg ((fl3 c).take t.1))∧hget t.2 0 = .pcells (stc s x y)∧hget t.2 q = .pcells (en e)∧hget t.2 q7 = .pcells (ct c)) (fun ⟨m,G⟩ ⟨hm,hT,k0,k5,k7⟩ r=>?_) (0,G) ⟨Nat.zero_le _,by simpa [catB] using hT,k0,k5,k7⟩ ⟨rfl,rfl,rfl,rfl,rfl,rfl,rfl,rfl,rfl,rfl,rfl,rfl,rfl,trivial⟩ rfl
    dsimp only at hm hT k0 k5 k7 ⊢
    refine ah (fun hc3=>?_) (fun hc3=>?_)
    ·have hlt3:m<(fl3 c).length:=by show m<3; omega
     obtain ⟨b,hbg⟩:∃ c',(fl3 c)[m]? = some c':=⟨_,List.getElem?_eq_getElem hlt3⟩
     have b6:=bu (f:=flg) (b:=10) (l:=(fl3 c).take m) (fun w hw=>flg_len w)
     rw [List.length_take] at b6
     refine aa (by (first | rfl | (simp; done) | (simp; omega))) ?_
     refine ab (v:=.bool b) (by unfold fls; rw [List.getElem?_map,show ((m:Nat):Int).toNat=m from rfl,hbg]; rfl) ?_
     refine am ((T.flag_ok 1 b _ (by simp only [List.length_append]; omega) G hT).mono fun z hz=>?_)
     (refine ba ?_; obtain ⟨zv,G⟩:=z; obtain ⟨hT,hkp⟩:=hz; dsimp only at hT hkp ⊢; have k0:=hkp.2 0 _ (by decide) k0 (by intro h; cases h) (fun _ _ h=>by cases h))
     (have k5:=hkp.2 q _ hq1 k5 (by intro h; cases h) (fun _ _ h=>by cases h))
     (have k7:=hkp.2 q7 _ hq7 k7 (by intro h; cases h) (fun _ _ h=>by cases h))
     refine a9 _ (aq (by omega)) ?_
     refine Has.intro ⟨(m+1,G),⟨hlt3,?_,k0,k5,k7⟩,(by dsimp only; omega),⟨rfl,rfl,rfl,rfl,rfl,rfl,rfl,rfl,rfl,rfl,rfl,rfl,rfl,trivial⟩,rfl⟩
     dsimp only
     rw [catB_step flg hbg,←List.append_assoc]
     exact hT
    have:m=3:=by omega
    subst this
    have b6:=bu (f:=flg) (b:=10) (l:=(fl3 c).take 3) (fun w hw=>flg_len w)
    rw [List.length_take] at b6
    refine Has.intro ?_
    (refine a8 _ k5 ?_)
    refine ab (v:=.sl e.ax e.a.l.length (flat ct e.a.l)) rfl ?_
    refine aa (by (first | rfl | (simp; done) | (simp; omega))) ?_
    refine ae f3 f4 ?_
    refine af ?_
    refine aa rfl ?_
    refine a9 (ct d) rfl ?_
    rw [aH]
    have k7:=(aA [.pcells (ct d)] (ap k7 ((by intro h; cases h)))).trans k7
    have k0:=(aA [.pcells (ct d)] (ap k0 ((by intro h; cases h)))).trans k0
    have k5:=(aA [.pcells (ct d)] (ap k5 ((by intro h; cases h)))).trans k5
    have hT:=T.TP.grow hT [.pcells (ct d)]
    (refine a8 _ k7 ?_)
    refine ae (v:=vc c.rq) rfl (of_decide_eq_true rfl) ?_
    (refine a8 _ k7 ?_)
    refine ae (v:=vc c.lm) rfl (of_decide_eq_true rfl) ?_
    refine af ?_
    refine ae (v:=vc d.rq) rfl (of_decide_eq_true rfl) ?_
    refine af ?_
    refine ae (v:=vc d.lm) rfl (of_decide_eq_true rfl) ?_
    generalize G++[.pcells (ct d)]=G at k5 k0 k7 hT ⊢
    refine am ((vput_ok 1 .nnx [c.rq,c.lm,d.rq,d.lm] (by simp) v4 _ (by simp only [List.length_append]; omega) G hT).mono fun z hz=>?_)
    (refine ba ?_; obtain ⟨zv,G⟩:=z; obtain ⟨hT,hkp⟩:=hz; dsimp only at hT hkp ⊢; have k0:=hkp.2 0 _ (by decide) k0 (by intro h; cases h) (fun _ _ h=>by cases h))
    (have k5:=hkp.2 q _ hq1 k5 (by intro h; cases h) (fun _ _ h=>by cases h))
    refine a9 _ (aq (by omega)) ?_
    refine Has.intro ⟨(j+1,G),⟨hlt2,?_,k0,k5⟩,(by dsimp only; omega),⟨rfl,rfl,rfl,rfl,rfl,rfl,rfl,rfl,rfl,trivial⟩,rfl⟩
    dsimp only
    rw [catB_step ctB hz]
    rw [←hB3,show (fl3 c).take 3=fl3 c from rfl] at hT
    have e2:B2++(catB ctB ((e.d.l.zip e.a.l).take j)++ctB (c,d))=B2++catB ctB ((e.d.l.zip e.a.l).take j)++txt c.name++catB flg (fl3 c)++catB vecB [c.rq,c.lm,d.rq,d.lm]:=by simp [ctB]
    rw [e2]
    exact hT
   have:j=e.d.l.length:=by omega
   subst this
   have w9:=lcq e.d.l.length
   refine Has.intro ?_
   (refine a8 _ k5 ?_)
   refine ab (v:=.int .i64 e.age) rfl ?_
   refine a9 _ (u64n nage) ?_
   refine am ((T.number_ok 1 e.age.toNat (nok_lt nage) _ (by simp only [List.length_append]; omega) G hT).mono fun z hz=>?_)
   (refine ba ?_; obtain ⟨zv,G⟩:=z; obtain ⟨hT,hkp⟩:=hz; dsimp only at hT hkp ⊢; have k0:=hkp.2 0 _ (by decide) k0 (by intro h; cases h) (fun _ _ h=>by cases h))
   (have k5:=hkp.2 q _ hq1 k5 (by intro h; cases h) (fun _ _ h=>by cases h))
   rw [show T.enc e.age.toNat=num e.age from rfl] at hT
   (refine a8 _ k5 ?_)
   refine ab (v:=.int .i64 e.due) rfl ?_
   refine a9 _ (u64n ndue) ?_
   refine am ((T.number_ok 1 e.due.toNat (nok_lt ndue) _ (by simp only [List.length_append]; omega) G hT).mono fun z hz=>?_)
   (refine ba ?_; obtain ⟨zv,G⟩:=z; obtain ⟨hT,hkp⟩:=hz; dsimp only at hT hkp ⊢; have k0:=hkp.2 0 _ (by decide) k0 (by intro h; cases h) (fun _ _ h=>by cases h))
   refine a9 _ (aq (by omega)) ?_
   refine Has.intro ⟨(i+1,G),⟨hlt,?_,k0⟩,(by dsimp only; omega),⟨rfl,rfl,rfl,rfl,rfl,trivial⟩,rfl⟩
   dsimp only
   rw [catB_step entB hg]
   have ht:(e.d.l.zip e.a.l).take e.d.l.length=e.d.l.zip e.a.l:=List.take_of_length_le (by rw [List.length_zip]; omega)
   rw [ht,←hB2,show T.enc e.due.toNat=num e.due from rfl] at hT
   have e2:B1++(catB entB (s.es.take i)++entB e)=B1++catB entB (s.es.take i)++txt e.d.name++T.enc (T.zn e.d.prio)++num e.d.pol++T.enc e.d.l.length++catB ctB (e.d.l.zip e.a.l)++num e.age++num e.due:=by simp [entB]
   rw [e2]
   exact hT
  have:i=s.es.length:=by omega
  subst this
  rw [List.take_length] at hT
  have a6:=leq s.es.length
  rw [List.take_length] at a6
  refine Has.intro ?_
  (refine a8 _ k0 ?_)
  refine ab (v:=.sl y s.hs.length (flat hoc s.hs)) rfl ?_
  refine a9 _ (u64k (by omega)) ?_
  refine am ((T.number_ok 1 s.hs.length (by omega) _ (by simp only [List.length_append]; omega) G hT).mono fun z hz=>?_)
  (refine ba ?_; obtain ⟨zv,G⟩:=z; obtain ⟨hT,hkp⟩:=hz; dsimp only at hT hkp ⊢; have k0:=hkp.2 0 _ (by decide) k0 (by intro h; cases h) (fun _ _ h=>by cases h))
  (refine a8 _ k0 ?_)
  refine ab (v:=.sl y s.hs.length (flat hoc s.hs)) rfl ?_
  generalize hB3:B1++catB entB s.es++T.enc s.hs.length=B3 at hT
  have lB3:B3.length≤21000:=by rw [←hB3]; simp only [List.length_append]; omega
  refine aw ?_
  refine aC (σ:=Nat × Heap) (fun t=>s.hs.length-t.1) (fun t=>[(3,.ptr 1 0),(119,.pv (.sl y s.hs.length (flat hoc s.hs))),(120,.pv (.int .i64 s.hs.length)),(121,.pv (.int .i64 t.1))]) (fun t=>t.2)
   (fun t=>t.1≤s.hs.length∧TP t.2 1 (B3++catB hoB (s.hs.take t.1))∧hget t.2 0 = .pcells (stc s x y)) (fun ⟨i,G⟩ ⟨hi,hT,k0⟩ r=>?_) (0,G) ⟨Nat.zero_le _,by simpa [catB] using hT,k0⟩ ⟨rfl,rfl,rfl,rfl,trivial⟩ rfl
  dsimp only at hi hT k0 ⊢
  refine ah (fun hc=>?_) (fun hc=>?_)
  ·have hlt:i<s.hs.length:=by omega
   obtain ⟨h,hg⟩:∃ c,s.hs[i]? = some c:=⟨_,List.getElem?_eq_getElem hlt⟩
   obtain ⟨g1,g2⟩:=hs_get h8 hg
   have hh8:=h8 h (List.mem_of_getElem? hg)
   have hh11:=hoc_len hh8
   have hH:=(r4 i h hg).1
   obtain ⟨n1,n2⟩:=hold_names r3 hH
   have nk:nok h.o.kind:=by have:=hH.2.1; have:=hH.2.2.1; unfold nok; omega
   have b1:=txt_len n1
   have b2:=txt_len n2
   have b3:=bv nk
   have b4:=lhq i
   refine aa (by (first | rfl | (simp; done) | (simp; omega))) ?_
   refine ae g1 g2 ?_
   refine af ?_
   refine aa (by rw [hh11]; rfl) ?_
   refine a9 (hoc h) (by simp) ?_
   rw [aH]
   obtain ⟨q,hq⟩:∃ q,q=G.length:=⟨_,rfl⟩
   have hq1:q≠1:=by have:=T.TP.len hT; omega
   have k5:hget (G++[.pcells (hoc h)]) q = .pcells (hoc h):=by rw [hq]; exact ak G _
   have k0:=(aA [.pcells (hoc h)] (ap k0 ((by intro h; cases h)))).trans k0
   have hT:=T.TP.grow hT [.pcells (hoc h)]
   rw [←hq]
   generalize G++[.pcells (hoc h)]=G at k5 k0 hT ⊢
   (refine a8 _ k5 ?_)
   refine ab (v:=sv h.o.pod) rfl ?_
   refine am ((T.text_ok 1 h.o.pod (by omega) _ (by simp only [List.length_append]; omega) G hT).mono fun z hz=>?_)
   (refine ba ?_; obtain ⟨zv,G⟩:=z; obtain ⟨hT,hkp⟩:=hz; dsimp only at hT hkp ⊢; have k0:=hkp.2 0 _ (by decide) k0 (by intro h; cases h) (fun _ _ h=>by cases h))
   (have k5:=hkp.2 q _ hq1 k5 (by intro h; cases h) (fun _ _ h=>by cases h))
   rw [List.append_assoc (B3++_),show T.enc h.o.pod.length++h.o.pod=txt h.o.pod from rfl] at hT
   (refine a8 _ k5 ?_)
   refine ab (v:=sv h.o.ctr) rfl ?_
   refine am ((T.text_ok 1 h.o.ctr (by omega) _ (by simp only [List.length_append]; omega) G hT).mono fun z hz=>?_)
   (refine ba ?_; obtain ⟨zv,G⟩:=z; obtain ⟨hT,hkp⟩:=hz; dsimp only at hT hkp ⊢; have k0:=hkp.2 0 _ (by decide) k0 (by intro h; cases h) (fun _ _ h=>by cases h))
   (have k5:=hkp.2 q _ hq1 k5 (by intro h; cases h) (fun _ _ h=>by cases h))
   rw [List.append_assoc (B3++_++_),show T.enc h.o.ctr.length++h.o.ctr=txt h.o.ctr from rfl] at hT
   (refine a8 _ k5 ?_)
   refine ab (v:=.int .i64 h.o.kind) rfl ?_
   refine a9 _ (u64n nk) ?_
   refine am ((T.number_ok 1 h.o.kind.toNat (nok_lt nk) _ (by simp only [List.length_append]; omega) G hT).mono fun z hz=>?_)
   (refine ba ?_; obtain ⟨zv,G⟩:=z; obtain ⟨hT,hkp⟩:=hz; dsimp only at hT hkp ⊢; have k0:=hkp.2 0 _ (by decide) k0 (by intro h; cases h) (fun _ _ h=>by cases h))
   (have k5:=hkp.2 q _ hq1 k5 (by intro h; cases h) (fun _ _ h=>by cases h))
   rw [show T.enc h.o.kind.toNat=num h.o.kind from rfl] at hT
   have hsp:((hoc h).drop 3).take 8=h.sp.map (PV.int .i64):=by
    show (h.sp.map (PV.int .i64)).take 8=_
    rw [List.take_of_length_le (by simp [hh8])]
   (refine a8 _ k5 ?_)
   refine ae hsp (by rw [hh11]; decide) ?_
   have spn:∀ n∈h.sp,nok n:=fun n hn=>by have:=hH.2.2.2.2.1 n hn; unfold nok; omega
   generalize hB4:B3++catB hoB (s.hs.take i)++txt h.o.pod++txt h.o.ctr++num h.o.kind=B4 at hT
   have lB4:B4.length≤90000:=by rw [←hB4]; simp only [List.length_append]; omega
   refine aw ?_
   refine aC (σ:=Nat × Heap) (fun t=>8-t.1) (fun t=>[(3,.ptr 1 0),(119,.pv (.sl y s.hs.length (flat hoc s.hs))),(120,.pv (.int .i64 s.hs.length)),(121,.pv (.int .i64 i)),(142,.pv (.agg (h.sp.map (PV.int .i64)))),(143,.pv (.int .i64 t.1))]) (fun t=>t.2)
    (fun t=>t.1≤8∧TP t.2 1 (B4++catB num (h.sp.take t.1))∧hget t.2 0 = .pcells (stc s x y)) (fun ⟨m,G⟩ ⟨hm,hT,k0⟩ r=>?_) (0,G) ⟨Nat.zero_le _,by simpa [catB] using hT,k0⟩ ⟨rfl,rfl,rfl,rfl,rfl,rfl,trivial⟩ rfl
   dsimp only at hm hT k0 ⊢
   refine ah (fun hc2=>?_) (fun hc2=>?_)
   ·have hlt2:m<h.sp.length:=by omega
    obtain ⟨n,hng⟩:∃ c,h.sp[m]? = some c:=⟨_,List.getElem?_eq_getElem hlt2⟩
    have hnok:=spn n (List.mem_of_getElem? hng)
    have b6:=bu (f:=num) (b:=10) (l:=h.sp.take m) (fun w hw=>bv (spn w (List.mem_of_mem_take hw)))
    rw [List.length_take] at b6
    refine aa (by (first | rfl | (simp; done) | (simp; omega))) ?_
    refine ab (v:=.int .i64 n) (by rw [List.getElem?_map,show ((m:Nat):Int).toNat=m from rfl,hng]; rfl) ?_
    refine a9 _ (u64n hnok) ?_
    refine am ((T.number_ok 1 n.toNat (nok_lt hnok) _ (by simp only [List.length_append]; omega) G hT).mono fun z hz=>?_)
    (refine ba ?_; obtain ⟨zv,G⟩:=z; obtain ⟨hT,hkp⟩:=hz; dsimp only at hT hkp ⊢; have k0:=hkp.2 0 _ (by decide) k0 (by intro h; cases h) (fun _ _ h=>by cases h))
    refine a9 _ (aq (by omega)) ?_
    refine Has.intro ⟨(m+1,G),⟨by omega,?_,k0⟩,(by dsimp only; omega),⟨rfl,rfl,rfl,rfl,rfl,rfl,trivial⟩,rfl⟩
    dsimp only
    rw [catB_step num hng,←List.append_assoc]
    exact hT
   have:m=8:=by omega
   subst this
   refine Has.intro ?_
   refine a9 _ (aq (by omega)) ?_
   refine Has.intro ⟨(i+1,G),⟨hlt,?_,k0⟩,(by dsimp only; omega),⟨rfl,rfl,rfl,rfl,trivial⟩,rfl⟩
   dsimp only
   rw [catB_step hoB hg]
   rw [List.take_of_length_le (by omega),←hB4] at hT
   have e2:B3++(catB hoB (s.hs.take i)++hoB h)=B3++catB hoB (s.hs.take i)++txt h.o.pod++txt h.o.ctr++num h.o.kind++catB num h.sp:=by simp [hoB]
   rw [e2]
   exact hT
  have:i=s.hs.length:=by omega
  subst this
  rw [List.take_length,←hB3,←hB1] at hT
  have b4:=lhq s.hs.length
  rw [List.take_length] at b4
  have hp:num s.next++T.enc s.es.length++catB entB s.es++T.enc s.hs.length++catB hoB s.hs=putB s:=rfl
  rw [hp] at hT
  have lp:(putB s).length≤1000000:=by
   have:=congrArg List.length hp
   simp only [List.length_append] at this
   omega
  obtain ⟨e,he,hx⟩:=T.bytes_ok 1 (putB s) lp G hT
  refine Has.intro ?_
  refine au he ?_
  exact Has.intro (Has.intro ⟨e,rfl,hx⟩)
 obtain ⟨v,h1,e,h2,h3⟩:=main
 exact ⟨e,by rw [h1,h2],h3⟩
end Go.Proofs.YtflfdglnelbbiaaGreat
