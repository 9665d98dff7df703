/-
  Part 4 of the functions and the law.
  Sums of pods: the program's.
  Sums of pods: the document's.
  Classes of pods.
  Classes of pods: the document's.
  Right pods.
  Right pods: the document's.
  Pods that are the same.
  Pods that are the same.
  Sums that tell when they do not fit: what the program's functions compute.
  Numbers in fewer bits, with and without a sign; what must be answered ahead of everything else.
  Numbers as bytes.
  Numbers, texts and flags on a tape, and what the document has for them.
-/
import Derived.Test.YtflfdglnelbbiaaGreatP3
import Derived.Test.YtflfdglnelbbiaaGreatP1
set_option linter.all false
set_option linter.unusedVariables false
set_option linter.unusedSimpArgs false
set_option linter.unusedSectionVars false
namespace Go.Proofs.YtflfdglnelbbiaaGreat
open Go Go.VM
def Kp (H H':Heap):Prop:=H.length≤H'.length ∧ ∀ i o,hget H i=o→o ≠ .dead→(∀ n es,o ≠ .tok n es)→hget H' i=o
theorem Kp.refl (H:Heap):Kp H H:=⟨Nat.le_refl _,fun _ _ h _ _=>h⟩
theorem Kp.trans {A B C:Heap} (h1:Kp A B) (h2:Kp B C):Kp A C:=⟨Nat.le_trans h1.1 h2.1,fun i o h hd ht=>h2.2 i o (h1.2 i o h hd ht) hd ht⟩
theorem Kp.app (H J:Heap):Kp H (H++J):=⟨by simp,fun i o h hd _=>(aA J (ap h hd)).trans h⟩
theorem Kp.box (H:Heap) (z o':HObj):Kp H (hset (H++[z]) H.length o'):=⟨by rw [br]; simp,fun i o h hd _=>keep2 z o' h hd⟩
theorem Kp.set {A B:Heap} (h:Kp A B) {i:Nat} (o':HObj) (hi:A.length≤i):Kp A (hset B i o'):=
 ⟨by rw [br]; exact h.1,fun j o hj hd ht=>(an _ _ (by have:=ap hj hd; omega)).trans (h.2 j o hj hd ht)⟩
theorem Kp.fr {H H':Heap} {v:AV} {e:Ext} {es n:Nat} {cs:List PV} (hv:AppV H v e es n cs) (hf:Fr v H H'):Kp H H':=⟨hf.1,fun _ _ h hd ht=>Fr.obj hv hf h hd ht⟩
theorem ba {R:Type} {Q:R→Prop} {v:AV} {F:AV→Option R} (h:Has (F v) Q):Has (forceK v F) Q:=by rw [forceK_def]; exact h
theorem AppV.form1 {G:Heap} {v:AV} {n:Nat} {cs:List PV} (h:AppV G v .nil 3 (n+1) cs):∃ t,v = .tsl t (n+1) cs:=by
 rcases AppV.forms h with ⟨h,_⟩ | h
 ·exact absurd h (Nat.succ_ne_zero n)
 ·exact h
set_option maxHeartbeats 4000000 in
theorem sums_plain (x:Ext) (p:Pd) (hl:p.l.length≤1000) (H:Heap) :
 Has (EE env (.fn 128) [.pv (.agg (pdc p x))] H) (fun y=>y.1 = .pv (sum3 p.l)∧Kp H y.2):=by
 refine aK ?_
 refine a8 (.pcells (pdc p x)) ((aA _ (by simp)).trans ((aA _ (by simp)).trans (ak H _))) ?_
 refine ab rfl ?_
 refine aw ?_
 refine aC (σ:=Nat × AV × AV × Heap) (fun s=>p.l.length-s.1) (fun s=>[(2,.ptr (H.length+1) 0),(3,.ptr (H.length+2) 0),(5,s.2.1),(6,s.2.2.1),(14,.pv (.sl x p.l.length (flat ct p.l))),(15,.pv (.int .i64 p.l.length)),(16,.pv (.int .i64 s.1))]) (fun s=>s.2.2.2)
  (fun s=>s.1≤p.l.length∧Two s.2.2.2 p.l s.1 s.2.1 s.2.2.1∧hget s.2.2.2 (H.length+1)=z3∧hget s.2.2.2 (H.length+2)=z3∧Kp H s.2.2.2) (fun ⟨i,v,w,G⟩ ⟨hi,hT,k2,k3,hK⟩ r=>?_)
  (0,.pv (.sl .nil 0 []),.pv (.sl .nil 0 []),_) ⟨Nat.zero_le _,Two.zero _ _,?_,?_,?_⟩ ⟨?_,?_,rfl,rfl,rfl,rfl,rfl,trivial⟩ rfl
 ·dsimp only at hi hT k2 k3 hK ⊢
  refine ah (fun hc=>?_) (fun hc=>?_)
  ·have hlt:i<p.l.length:=by omega
   obtain ⟨c,hcg⟩:∃ c,p.l[i]? = some c:=⟨_,List.getElem?_eq_getElem hlt⟩
   obtain ⟨g1,g2⟩:=aR ct_len hcg
   refine aa (by (first | rfl | (simp; done) | (simp; omega))) ?_
   refine ae g1 g2 ?_
   refine af ?_
   refine aa rfl ?_
   refine a9 (ct c) rfl ?_
   have hT:=Two.box hT (.pcells ([PV.str ⟨#[]⟩,PV.int IntKind.i64 0,PV.int IntKind.i64 0,PV.int IntKind.i64 0,PV.int IntKind.i64 0,PV.int IntKind.i64 0,PV.int IntKind.i64 0,PV.bool false,PV.bool false,PV.bool false])) (.pcells (ct c)) ((fun _ _ h=>by cases h))
   have k8:=ai (H:=G++[HObj.pcells ([PV.str ⟨#[]⟩,PV.int IntKind.i64 0,PV.int IntKind.i64 0,PV.int IntKind.i64 0,PV.int IntKind.i64 0,PV.int IntKind.i64 0,PV.int IntKind.i64 0,PV.bool false,PV.bool false,PV.bool false])]) (id:=G.length) (.pcells (ct c)) (by simp)
   have k2:=keep2 (.pcells ([PV.str ⟨#[]⟩,PV.int IntKind.i64 0,PV.int IntKind.i64 0,PV.int IntKind.i64 0,PV.int IntKind.i64 0,PV.int IntKind.i64 0,PV.int IntKind.i64 0,PV.bool false,PV.bool false,PV.bool false])) (.pcells (ct c)) k2 ((by intro h; cases h))
   have k3:=keep2 (.pcells ([PV.str ⟨#[]⟩,PV.int IntKind.i64 0,PV.int IntKind.i64 0,PV.int IntKind.i64 0,PV.int IntKind.i64 0,PV.int IntKind.i64 0,PV.int IntKind.i64 0,PV.bool false,PV.bool false,PV.bool false])) (.pcells (ct c)) k3 ((by intro h; cases h))
   have hK:=hK.trans (Kp.box G (.pcells ([PV.str ⟨#[]⟩,PV.int IntKind.i64 0,PV.int IntKind.i64 0,PV.int IntKind.i64 0,PV.int IntKind.i64 0,PV.int IntKind.i64 0,PV.int IntKind.i64 0,PV.bool false,PV.bool false,PV.bool false])) (.pcells (ct c)))
   generalize hset (G++[HObj.pcells ([PV.str ⟨#[]⟩,PV.int IntKind.i64 0,PV.int IntKind.i64 0,PV.int IntKind.i64 0,PV.int IntKind.i64 0,PV.int IntKind.i64 0,PV.int IntKind.i64 0,PV.bool false,PV.bool false,PV.bool false])]) G.length (.pcells (ct c))=G at *
   rcases AppV.forms hT.1 with ⟨hz,rfl⟩ | ⟨t,rfl⟩
   all_goals
    rcases AppV.forms hT.2.1 with ⟨hz2,rfl⟩ | ⟨t2,rfl⟩
   all_goals
    refine a8 _ k8 ?_
    refine ae (v:=vc c.rq) rfl (of_decide_eq_true rfl) ?_
    refine app_has (m:=1) (new:=vc c.rq) hT.1 rfl (by show (i+1)*24≤140737488355328; omega) (fun v' G1 hv' hf ht=>?_)
    obtain ⟨a1,a2,a3⟩:=two_first hT hcg hv' hf ht
    have kf:=Kp.fr hT.1 hf
    have k8a:=kf.2 _ _ k8 ((by intro h; cases h)) ((fun _ _ h=>by cases h))
    obtain ⟨tv,rfl⟩:=AppV.form1 hv'
    refine a8 _ k8a ?_
    refine ae (v:=vc c.lm) rfl (of_decide_eq_true rfl) ?_
    refine app_has (m:=1) (new:=vc c.lm) a2 rfl (by show (i+1)*24≤140737488355328; omega) (fun w' G2 hw' hf2 ht2=>?_)
    have hT2:=two_second a1 a2 a3 hcg hw' hf2 ht2
    have kf2:=Kp.fr a2 hf2
    obtain ⟨tw,rfl⟩:=AppV.form1 hw'
    refine bq ?_ ?_ ?_
    ·rw [k8,k8a]
    ·first | (rw [k8]; rfl) | (rw [k8a]; rfl)
    refine a9 _ (aq (by omega)) ?_
    exact Has.intro ⟨(i+1,_,_,G2),⟨hlt,hT2,kf2.2 _ _ (kf.2 _ _ k2 ((by intro h; cases h)) ((fun _ _ h=>by cases h))) ((by intro h; cases h)) ((fun _ _ h=>by cases h)),kf2.2 _ _ (kf.2 _ _ k3 ((by intro h; cases h)) ((fun _ _ h=>by cases h))) ((by intro h; cases h)) ((fun _ _ h=>by cases h)),(hK.trans kf).trans kf2⟩,(by dsimp only; omega),⟨rfl,rfl,rfl,rfl,rfl,rfl,rfl,trivial⟩,rfl⟩
  ·have:i=p.l.length:=by omega
   subst this
   refine Has.intro ?_
   have s1:∀ x',EP (EE env) 133 [.sl x' p.l.length (flat vc ((rqs p.l).take p.l.length))]=some (pairV (sumV (rqs p.l))):=fun x'=>by
    have e:(rqs p.l).length=p.l.length:=by simp [rqs]
    have:=sum_ok x' (rqs p.l) (by rw [aS]; omega)
    rw [←e,List.take_length]; exact this
   have s2:∀ x',EP (EE env) 133 [.sl x' p.l.length (flat vc ((lms p.l).take p.l.length))]=some (pairV (sumV (lms p.l))):=fun x'=>by
    have e:(lms p.l).length=p.l.length:=by simp [lms]
    have:=sum_ok x' (lms p.l) (by rw [aS]; omega)
    rw [←e,List.take_length]; exact this
   have s10:p.l.length=0→EP (EE env) 133 [.sl .nil 0 []]=some (pairV (sumV (rqs p.l))):=fun h=>by have:=s1 .nil; rw [h] at this; exact this
   have s20:p.l.length=0→EP (EE env) 133 [.sl .nil 0 []]=some (pairV (sumV (lms p.l))):=fun h=>by have:=s2 .nil; rw [h] at this; exact this
   have hsum:sum3 p.l = .tup [.agg (vc ((sumV (rqs p.l)).getD v0)),.agg (vc ((sumV (lms p.l)).getD v0)),.bool ((sumV (rqs p.l)).isSome&&(sumV (lms p.l)).isSome)]:=rfl
   rw [hsum]
   generalize sumV (rqs p.l)=o1 at *
   generalize sumV (lms p.l)=o2 at *
   have hpa:∀ o,pairV o = .tup [.agg (vc (o.getD v0)),.bool o.isSome]:=fun o=>by cases o<;>rfl
   rw [hpa] at s1 s2 s10 s20
   rcases AppV.forms hT.1 with ⟨hz,rfl⟩ | ⟨t,rfl⟩
   all_goals
    rcases AppV.forms hT.2.1 with ⟨hz2,rfl⟩ | ⟨t2,rfl⟩
   all_goals
    first
     | refine aj (s10 hz) ?_
     | refine aj (s1 .nn) ?_
    refine af ?_
    refine aa rfl ?_
    refine a9 (vc (o1.getD v0)) rfl ?_
    have k9:=ai (H:=G++[HObj.pcells ([PV.int IntKind.i64 0,PV.int IntKind.i64 0,PV.int IntKind.i64 0])]) (id:=G.length) (.pcells (vc (o1.getD v0))) (by simp)
    have k2:=keep2 (.pcells ([PV.int IntKind.i64 0,PV.int IntKind.i64 0,PV.int IntKind.i64 0])) (.pcells (vc (o1.getD v0))) k2 ((by intro h; cases h))
    have k3:=keep2 (.pcells ([PV.int IntKind.i64 0,PV.int IntKind.i64 0,PV.int IntKind.i64 0])) (.pcells (vc (o1.getD v0))) k3 ((by intro h; cases h))
    have hK:=hK.trans (Kp.box G (.pcells ([PV.int IntKind.i64 0,PV.int IntKind.i64 0,PV.int IntKind.i64 0])) (.pcells (vc (o1.getD v0))))
    generalize hset (G++[HObj.pcells ([PV.int IntKind.i64 0,PV.int IntKind.i64 0,PV.int IntKind.i64 0])]) G.length (.pcells (vc (o1.getD v0)))=G at *
    first
     | refine aj (s20 hz2) ?_
     | refine aj (s2 .nn) ?_
    refine af ?_
    refine aa rfl ?_
    refine a9 (vc (o2.getD v0)) rfl ?_
    have hn11:H.length+2<G.length:=ap k3 ((by intro h; cases h))
    have k11:=ai (H:=G++[HObj.pcells ([PV.int IntKind.i64 0,PV.int IntKind.i64 0,PV.int IntKind.i64 0])]) (id:=G.length) (.pcells (vc (o2.getD v0))) (by simp)
    have k9:=keep2 (.pcells ([PV.int IntKind.i64 0,PV.int IntKind.i64 0,PV.int IntKind.i64 0])) (.pcells (vc (o2.getD v0))) k9 ((by intro h; cases h))
    have k2:=keep2 (.pcells ([PV.int IntKind.i64 0,PV.int IntKind.i64 0,PV.int IntKind.i64 0])) (.pcells (vc (o2.getD v0))) k2 ((by intro h; cases h))
    have k3:=keep2 (.pcells ([PV.int IntKind.i64 0,PV.int IntKind.i64 0,PV.int IntKind.i64 0])) (.pcells (vc (o2.getD v0))) k3 ((by intro h; cases h))
    have hK:=hK.trans (Kp.box G (.pcells ([PV.int IntKind.i64 0,PV.int IntKind.i64 0,PV.int IntKind.i64 0])) (.pcells (vc (o2.getD v0))))
    generalize hset (G++[HObj.pcells ([PV.int IntKind.i64 0,PV.int IntKind.i64 0,PV.int IntKind.i64 0])]) G.length (.pcells (vc (o2.getD v0)))=G at *
    refine a8 _ k9 ?_
    refine ae (v:=vc (o1.getD v0)) rfl (of_decide_eq_true rfl) ?_
    refine a8 _ k11 ?_
    refine ae (v:=vc (o2.getD v0)) rfl (of_decide_eq_true rfl) ?_
    have l2:H.length+1<G.length:=ap k2 ((by intro h; cases h))
    have l11:=ap k11 ((by intro h; cases h))
    cases o1
    all_goals
     cases o2
    all_goals
     refine a8 _ k2 ?_
     refine aa rfl ?_
     refine ao ?_
     refine a8 _ ((an _ _ (by omega)).trans k3) ?_
     refine aa rfl ?_
     refine ao ?_
     refine bq ?_ ?_ ?_
     ·first
       | (rw [k11,an _ _ (by omega),k11])
       | (rw [an _ _ (by omega),k11])
     ·first | (rw [k11]; rfl) | (rw [an _ _ (by omega),k11]; rfl)
     refine a8 _ ((an _ _ (by omega)).trans (ai _ l2)) ?_
     refine ae rfl (of_decide_eq_true rfl) ?_
     refine a8 _ (ai _ (by rw [br]; omega)) ?_
     refine ae rfl (of_decide_eq_true rfl) ?_
     exact Has.intro ⟨rfl,(hK.set _ (by omega)).set _ (by omega)⟩
 ·exact (aA _ (by simp)).trans (by
   have:=ak (H++[HObj.pcells (pdc p x)]) (.pcells ([PV.int IntKind.i64 0,PV.int IntKind.i64 0,PV.int IntKind.i64 0]))
   show hget _ _=HObj.pcells ([PV.int IntKind.i64 0,PV.int IntKind.i64 0,PV.int IntKind.i64 0])
   simpa using this)
 ·have:=ak (H++[HObj.pcells (pdc p x)]++[HObj.pcells ([PV.int IntKind.i64 0,PV.int IntKind.i64 0,PV.int IntKind.i64 0])]) (.pcells ([PV.int IntKind.i64 0,PV.int IntKind.i64 0,PV.int IntKind.i64 0]))
  show hget _ _=HObj.pcells ([PV.int IntKind.i64 0,PV.int IntKind.i64 0,PV.int IntKind.i64 0])
  simpa using this
 ·rw [List.append_assoc,List.append_assoc]; exact Kp.app _ _
 ·show AV.ptr (H++[HObj.pcells (pdc p x)]).length 0=_
  rw [List.length_append]; rfl
 ·show AV.ptr (H++[HObj.pcells (pdc p x)]++[HObj.pcells ([PV.int IntKind.i64 0,PV.int IntKind.i64 0,PV.int IntKind.i64 0])]).length 0=_
  rw [List.length_append,List.length_append]; rfl
theorem sums_ok (u:AV) (p:Pd) (hl:p.l.length≤1000) (H:Heap) (hu:PA u H p):Has (EE env (.fn 128) [u] H) (fun y=>y.1 = .pv (sum3 p.l)∧Kp H y.2):=by
 rcases hu with ⟨x,rfl⟩ | hid
 ·exact sums_plain x p hl H
 ·exact hid.elim
end Go.Proofs.YtflfdglnelbbiaaGreat
namespace Go.Proofs.YtflfdglnelbbiaaGreat
open Go Go.VM
set_option maxHeartbeats 4000000 in
theorem rsums_plain (x:Ext) (p:Pd) (hl:p.l.length≤1000) (H:Heap) :
 Has (EE env (.fn 103) [.pv (.agg (pdc p x))] H) (fun y=>y.1 = .pv (sum3 p.l)∧Kp H y.2):=by
 refine aK ?_
 refine a8 (.pcells (pdc p x)) ((aA _ (by simp)).trans ((aA _ (by simp)).trans (ak H _))) ?_
 refine ab rfl ?_
 refine aw ?_
 refine aC (σ:=Nat × AV × AV × Heap) (fun s=>p.l.length-s.1) (fun s=>[(2,.ptr (H.length+1) 0),(3,.ptr (H.length+2) 0),(5,s.2.1),(6,s.2.2.1),(14,.pv (.sl x p.l.length (flat ct p.l))),(15,.pv (.int .i64 p.l.length)),(16,.pv (.int .i64 s.1))]) (fun s=>s.2.2.2)
  (fun s=>s.1≤p.l.length∧Two s.2.2.2 p.l s.1 s.2.1 s.2.2.1∧hget s.2.2.2 (H.length+1)=z3∧hget s.2.2.2 (H.length+2)=z3∧Kp H s.2.2.2) (fun ⟨i,v,w,G⟩ ⟨hi,hT,k2,k3,hK⟩ r=>?_)
  (0,.pv (.sl .nil 0 []),.pv (.sl .nil 0 []),_) ⟨Nat.zero_le _,Two.zero _ _,?_,?_,?_⟩ ⟨?_,?_,rfl,rfl,rfl,rfl,rfl,trivial⟩ rfl
 ·dsimp only at hi hT k2 k3 hK ⊢
  refine ah (fun hc=>?_) (fun hc=>?_)
  ·have hlt:i<p.l.length:=by omega
   obtain ⟨c,hcg⟩:∃ c,p.l[i]? = some c:=⟨_,List.getElem?_eq_getElem hlt⟩
   obtain ⟨g1,g2⟩:=aR ct_len hcg
   refine aa (by (first | rfl | (simp; done) | (simp; omega))) ?_
   refine ae g1 g2 ?_
   refine af ?_
   refine aa rfl ?_
   refine a9 (ct c) rfl ?_
   have hT:=Two.box hT (.pcells ([PV.str ⟨#[]⟩,PV.int IntKind.i64 0,PV.int IntKind.i64 0,PV.int IntKind.i64 0,PV.int IntKind.i64 0,PV.int IntKind.i64 0,PV.int IntKind.i64 0,PV.bool false,PV.bool false,PV.bool false])) (.pcells (ct c)) ((fun _ _ h=>by cases h))
   have k8:=ai (H:=G++[HObj.pcells ([PV.str ⟨#[]⟩,PV.int IntKind.i64 0,PV.int IntKind.i64 0,PV.int IntKind.i64 0,PV.int IntKind.i64 0,PV.int IntKind.i64 0,PV.int IntKind.i64 0,PV.bool false,PV.bool false,PV.bool false])]) (id:=G.length) (.pcells (ct c)) (by simp)
   have k2:=keep2 (.pcells ([PV.str ⟨#[]⟩,PV.int IntKind.i64 0,PV.int IntKind.i64 0,PV.int IntKind.i64 0,PV.int IntKind.i64 0,PV.int IntKind.i64 0,PV.int IntKind.i64 0,PV.bool false,PV.bool false,PV.bool false])) (.pcells (ct c)) k2 ((by intro h; cases h))
   have k3:=keep2 (.pcells ([PV.str ⟨#[]⟩,PV.int IntKind.i64 0,PV.int IntKind.i64 0,PV.int IntKind.i64 0,PV.int IntKind.i64 0,PV.int IntKind.i64 0,PV.int IntKind.i64 0,PV.bool false,PV.bool false,PV.bool false])) (.pcells (ct c)) k3 ((by intro h; cases h))
   have hK:=hK.trans (Kp.box G (.pcells ([PV.str ⟨#[]⟩,PV.int IntKind.i64 0,PV.int IntKind.i64 0,PV.int IntKind.i64 0,PV.int IntKind.i64 0,PV.int IntKind.i64 0,PV.int IntKind.i64 0,PV.bool false,PV.bool false,PV.bool false])) (.pcells (ct c)))
   generalize hset (G++[HObj.pcells ([PV.str ⟨#[]⟩,PV.int IntKind.i64 0,PV.int IntKind.i64 0,PV.int IntKind.i64 0,PV.int IntKind.i64 0,PV.int IntKind.i64 0,PV.int IntKind.i64 0,PV.bool false,PV.bool false,PV.bool false])]) G.length (.pcells (ct c))=G at *
   rcases AppV.forms hT.1 with ⟨hz,rfl⟩ | ⟨t,rfl⟩
   all_goals
    rcases AppV.forms hT.2.1 with ⟨hz2,rfl⟩ | ⟨t2,rfl⟩
   all_goals
    refine a8 _ k8 ?_
    refine ae (v:=vc c.rq) rfl (of_decide_eq_true rfl) ?_
    refine app_has (m:=1) (new:=vc c.rq) hT.1 rfl (by show (i+1)*24≤140737488355328; omega) (fun v' G1 hv' hf ht=>?_)
    obtain ⟨a1,a2,a3⟩:=two_first hT hcg hv' hf ht
    have kf:=Kp.fr hT.1 hf
    have k8a:=kf.2 _ _ k8 ((by intro h; cases h)) ((fun _ _ h=>by cases h))
    obtain ⟨tv,rfl⟩:=AppV.form1 hv'
    refine a8 _ k8a ?_
    refine ae (v:=vc c.lm) rfl (of_decide_eq_true rfl) ?_
    refine app_has (m:=1) (new:=vc c.lm) a2 rfl (by show (i+1)*24≤140737488355328; omega) (fun w' G2 hw' hf2 ht2=>?_)
    have hT2:=two_second a1 a2 a3 hcg hw' hf2 ht2
    have kf2:=Kp.fr a2 hf2
    obtain ⟨tw,rfl⟩:=AppV.form1 hw'
    refine a9 _ (aq (by omega)) ?_
    exact Has.intro ⟨(i+1,_,_,G2),⟨hlt,hT2,kf2.2 _ _ (kf.2 _ _ k2 ((by intro h; cases h)) ((fun _ _ h=>by cases h))) ((by intro h; cases h)) ((fun _ _ h=>by cases h)),kf2.2 _ _ (kf.2 _ _ k3 ((by intro h; cases h)) ((fun _ _ h=>by cases h))) ((by intro h; cases h)) ((fun _ _ h=>by cases h)),(hK.trans kf).trans kf2⟩,(by dsimp only; omega),⟨rfl,rfl,rfl,rfl,rfl,rfl,rfl,trivial⟩,rfl⟩
  ·have:i=p.l.length:=by omega
   subst this
   refine Has.intro ?_
   have s1:∀ x',EP (EE env) 115 [.sl x' p.l.length (flat vc ((rqs p.l).take p.l.length))]=some (pairV (sumV (rqs p.l))):=fun x'=>by
    have e:(rqs p.l).length=p.l.length:=by simp [rqs]
    have:=rsum_ok x' (rqs p.l) (by rw [aS]; omega)
    rw [←e,List.take_length]; exact this
   have s2:∀ x',EP (EE env) 115 [.sl x' p.l.length (flat vc ((lms p.l).take p.l.length))]=some (pairV (sumV (lms p.l))):=fun x'=>by
    have e:(lms p.l).length=p.l.length:=by simp [lms]
    have:=rsum_ok x' (lms p.l) (by rw [aS]; omega)
    rw [←e,List.take_length]; exact this
   have s10:p.l.length=0→EP (EE env) 115 [.sl .nil 0 []]=some (pairV (sumV (rqs p.l))):=fun h=>by have:=s1 .nil; rw [h] at this; exact this
   have s20:p.l.length=0→EP (EE env) 115 [.sl .nil 0 []]=some (pairV (sumV (lms p.l))):=fun h=>by have:=s2 .nil; rw [h] at this; exact this
   have hsum:sum3 p.l = .tup [.agg (vc ((sumV (rqs p.l)).getD v0)),.agg (vc ((sumV (lms p.l)).getD v0)),.bool ((sumV (rqs p.l)).isSome&&(sumV (lms p.l)).isSome)]:=rfl
   rw [hsum]
   generalize sumV (rqs p.l)=o1 at *
   generalize sumV (lms p.l)=o2 at *
   have hpa:∀ o,pairV o = .tup [.agg (vc (o.getD v0)),.bool o.isSome]:=fun o=>by cases o<;>rfl
   rw [hpa] at s1 s2 s10 s20
   rcases AppV.forms hT.1 with ⟨hz,rfl⟩ | ⟨t,rfl⟩
   all_goals
    rcases AppV.forms hT.2.1 with ⟨hz2,rfl⟩ | ⟨t2,rfl⟩
   all_goals
    first
     | refine aj (s10 hz) ?_
     | refine aj (s1 .nn) ?_
    refine af ?_
    refine aa rfl ?_
    refine a9 (vc (o1.getD v0)) rfl ?_
    have k9:=ai (H:=G++[HObj.pcells ([PV.int IntKind.i64 0,PV.int IntKind.i64 0,PV.int IntKind.i64 0])]) (id:=G.length) (.pcells (vc (o1.getD v0))) (by simp)
    have k2:=keep2 (.pcells ([PV.int IntKind.i64 0,PV.int IntKind.i64 0,PV.int IntKind.i64 0])) (.pcells (vc (o1.getD v0))) k2 ((by intro h; cases h))
    have k3:=keep2 (.pcells ([PV.int IntKind.i64 0,PV.int IntKind.i64 0,PV.int IntKind.i64 0])) (.pcells (vc (o1.getD v0))) k3 ((by intro h; cases h))
    have hK:=hK.trans (Kp.box G (.pcells ([PV.int IntKind.i64 0,PV.int IntKind.i64 0,PV.int IntKind.i64 0])) (.pcells (vc (o1.getD v0))))
    generalize hset (G++[HObj.pcells ([PV.int IntKind.i64 0,PV.int IntKind.i64 0,PV.int IntKind.i64 0])]) G.length (.pcells (vc (o1.getD v0)))=G at *
    first
     | refine aj (s20 hz2) ?_
     | refine aj (s2 .nn) ?_
    refine af ?_
    refine aa rfl ?_
    refine a9 (vc (o2.getD v0)) rfl ?_
    have hn11:H.length+2<G.length:=ap k3 ((by intro h; cases h))
    have k11:=ai (H:=G++[HObj.pcells ([PV.int IntKind.i64 0,PV.int IntKind.i64 0,PV.int IntKind.i64 0])]) (id:=G.length) (.pcells (vc (o2.getD v0))) (by simp)
    have k9:=keep2 (.pcells ([PV.int IntKind.i64 0,PV.int IntKind.i64 0,PV.int IntKind.i64 0])) (.pcells (vc (o2.getD v0))) k9 ((by intro h; cases h))
    have k2:=keep2 (.pcells ([PV.int IntKind.i64 0,PV.int IntKind.i64 0,PV.int IntKind.i64 0])) (.pcells (vc (o2.getD v0))) k2 ((by intro h; cases h))
    have k3:=keep2 (.pcells ([PV.int IntKind.i64 0,PV.int IntKind.i64 0,PV.int IntKind.i64 0])) (.pcells (vc (o2.getD v0))) k3 ((by intro h; cases h))
    have hK:=hK.trans (Kp.box G (.pcells ([PV.int IntKind.i64 0,PV.int IntKind.i64 0,PV.int IntKind.i64 0])) (.pcells (vc (o2.getD v0))))
    generalize hset (G++[HObj.pcells ([PV.int IntKind.i64 0,PV.int IntKind.i64 0,PV.int IntKind.i64 0])]) G.length (.pcells (vc (o2.getD v0)))=G at *
    refine a8 _ k9 ?_
    refine ae (v:=vc (o1.getD v0)) rfl (of_decide_eq_true rfl) ?_
    refine a8 _ k11 ?_
    refine ae (v:=vc (o2.getD v0)) rfl (of_decide_eq_true rfl) ?_
    have l2:H.length+1<G.length:=ap k2 ((by intro h; cases h))
    have l11:=ap k11 ((by intro h; cases h))
    cases o1
    all_goals
     cases o2
    all_goals
     refine a8 _ k2 ?_
     refine aa rfl ?_
     refine ao ?_
     refine a8 _ ((an _ _ (by omega)).trans k3) ?_
     refine aa rfl ?_
     refine ao ?_
     refine bq ?_ ?_ ?_
     ·first
       | (rw [k11,an _ _ (by omega),k11])
       | (rw [an _ _ (by omega),k11])
     ·first | (rw [k11]; rfl) | (rw [an _ _ (by omega),k11]; rfl)
     refine a8 _ ((an _ _ (by omega)).trans (ai _ l2)) ?_
     refine ae rfl (of_decide_eq_true rfl) ?_
     refine a8 _ (ai _ (by rw [br]; omega)) ?_
     refine ae rfl (of_decide_eq_true rfl) ?_
     exact Has.intro ⟨rfl,(hK.set _ (by omega)).set _ (by omega)⟩
 ·exact (aA _ (by simp)).trans (by
   have:=ak (H++[HObj.pcells (pdc p x)]) (.pcells ([PV.int IntKind.i64 0,PV.int IntKind.i64 0,PV.int IntKind.i64 0]))
   show hget _ _=HObj.pcells ([PV.int IntKind.i64 0,PV.int IntKind.i64 0,PV.int IntKind.i64 0])
   simpa using this)
 ·have:=ak (H++[HObj.pcells (pdc p x)]++[HObj.pcells ([PV.int IntKind.i64 0,PV.int IntKind.i64 0,PV.int IntKind.i64 0])]) (.pcells ([PV.int IntKind.i64 0,PV.int IntKind.i64 0,PV.int IntKind.i64 0]))
  show hget _ _=HObj.pcells ([PV.int IntKind.i64 0,PV.int IntKind.i64 0,PV.int IntKind.i64 0])
  simpa using this
 ·rw [List.append_assoc,List.append_assoc]; exact Kp.app _ _
 ·show AV.ptr (H++[HObj.pcells (pdc p x)]).length 0=_
  rw [List.length_append]; rfl
 ·show AV.ptr (H++[HObj.pcells (pdc p x)]++[HObj.pcells ([PV.int IntKind.i64 0,PV.int IntKind.i64 0,PV.int IntKind.i64 0])]).length 0=_
  rw [List.length_append,List.length_append]; rfl
theorem rsums_ok (u:AV) (p:Pd) (hl:p.l.length≤1000) (H:Heap) (hu:PA u H p):Has (EE env (.fn 103) [u] H) (fun y=>y.1 = .pv (sum3 p.l)∧Kp H y.2):=by
 rcases hu with ⟨x,rfl⟩ | hid
 ·exact rsums_plain x p hl H
 ·exact hid.elim
end Go.Proofs.YtflfdglnelbbiaaGreat
namespace Go.Proofs.YtflfdglnelbbiaaGreat
open Go Go.VM
def isZ (c:Ct):Prop:=c.rq.c=0∧c.lm.c=0∧c.rq.m=0∧c.lm.m=0
instance (c:Ct):Decidable (isZ c):=by unfold isZ; infer_instance
def isG (c:Ct):Prop:=c.rq.c=c.lm.c∧c.rq.m=c.lm.m∧c.rq.c≠0∧c.rq.m≠0
instance (c:Ct):Decidable (isG c):=by unfold isG; infer_instance
def classI (l:List Ct):Int:=if ∀ c∈l,isZ c then 2 else if ∀ c∈l,isG c then 0 else 1
theorem all_step {p:Ct→Prop} {l:List Ct} {i:Nat} {c:Ct} (h:l[i]? = some c):(∀ d∈l.take (i+1),p d)↔(∀ d∈l.take i,p d)∧p c:=by
 rw [List.take_add_one,h]
 constructor
 ·exact fun h=>⟨fun d hd=>h d (List.mem_append_left _ hd),h c (List.mem_append_right _ (by simp))⟩
 ·rintro ⟨h1,h2⟩ d hd
  rcases List.mem_append.1 hd with hd | hd
  ·exact h1 d hd
  ·simp at hd; subst hd; exact h2
def dG (l:List Ct):Bool:=decide (∀ d∈l,isG d)
def dZ (l:List Ct):Bool:=decide (∀ d∈l,isZ d)
theorem dG_step {l:List Ct} {i:Nat} {c:Ct} (h:l[i]? = some c):dG (l.take (i+1))=(dG (l.take i)&&decide (isG c)):=by
 unfold dG; rw [Bool.eq_iff_iff,Bool.and_eq_true,decide_eq_true_iff,decide_eq_true_iff,decide_eq_true_iff]; exact all_step h
theorem dZ_step {l:List Ct} {i:Nat} {c:Ct} (h:l[i]? = some c):dZ (l.take (i+1))=(dZ (l.take i)&&decide (isZ c)):=by
 unfold dZ; rw [Bool.eq_iff_iff,Bool.and_eq_true,decide_eq_true_iff,decide_eq_true_iff,decide_eq_true_iff]; exact all_step h
set_option maxRecDepth 20000 in
set_option maxHeartbeats 4000000 in
theorem class_plain (x:Ext) (p:Pd) (hl:p.l.length≤maxLen) (H:Heap) :
 Has (EE env (.fn 118) [.pv (.agg (pdc p x))] H) (fun y=>y.1 = .pv (.int .i64 (classI p.l))∧Kp H y.2):=by
 rw [aS] at hl
 refine aK ?_
 refine a8 (.pcells (pdc p x)) (ak H _) ?_
 refine ab rfl ?_
 refine aw ?_
 refine aC (σ:=Nat × Heap) (fun s=>p.l.length-s.1) (fun s=>[(3,.pv (.bool (dG (p.l.take s.1)))),(4,.pv (.bool (dZ (p.l.take s.1)))),(10,.pv (.sl x p.l.length (flat ct p.l))),(11,.pv (.int .i64 p.l.length)),(12,.pv (.int .i64 s.1))]) (fun s=>s.2)
  (fun s=>s.1≤p.l.length∧Kp H s.2) (fun ⟨i,G⟩ ⟨hi,hK⟩ r=>?_) (0,_) ⟨Nat.zero_le _,Kp.app H _⟩ ⟨rfl,rfl,rfl,rfl,rfl,trivial⟩ rfl
 dsimp only at hi hK ⊢
 refine ah (fun hc=>?_) (fun hc=>?_)
 ·have hlt:i<p.l.length:=by omega
  obtain ⟨c,hcg⟩:∃ c,p.l[i]? = some c:=⟨_,List.getElem?_eq_getElem hlt⟩
  obtain ⟨g1,g2⟩:=aR ct_len hcg
  have sG:=dG_step hcg
  have sZ:=dZ_step hcg
  refine aa (by (first | rfl | (simp; done) | (simp; omega))) ?_
  refine ae g1 g2 ?_
  refine af ?_
  refine aa rfl ?_
  refine a9 (ct c) rfl ?_
  have k6:=ai (H:=G++[HObj.pcells ([PV.str ⟨#[]⟩,PV.int IntKind.i64 0,PV.int IntKind.i64 0,PV.int IntKind.i64 0,PV.int IntKind.i64 0,PV.int IntKind.i64 0,PV.int IntKind.i64 0,PV.bool false,PV.bool false,PV.bool false])]) (id:=G.length) (.pcells (ct c)) (by simp)
  have hK:=hK.trans (Kp.box G (.pcells ([PV.str ⟨#[]⟩,PV.int IntKind.i64 0,PV.int IntKind.i64 0,PV.int IntKind.i64 0,PV.int IntKind.i64 0,PV.int IntKind.i64 0,PV.int IntKind.i64 0,PV.bool false,PV.bool false,PV.bool false])) (.pcells (ct c)))
  generalize hset (G++[HObj.pcells ([PV.str ⟨#[]⟩,PV.int IntKind.i64 0,PV.int IntKind.i64 0,PV.int IntKind.i64 0,PV.int IntKind.i64 0,PV.int IntKind.i64 0,PV.int IntKind.i64 0,PV.bool false,PV.bool false,PV.bool false])]) G.length (.pcells (ct c))=G at *
  refine a8 _ ((aA _ (by simp; have:=ap k6 ((by intro h; cases h)); omega)).trans ((aA _ (ap k6 ((by intro h; cases h)))).trans k6)) ?_
  refine ae (v:=vc c.rq) rfl (of_decide_eq_true rfl) ?_
  refine a8 _ ((aA _ (by simp; have:=ap k6 ((by intro h; cases h)); omega)).trans ((aA _ (ap k6 ((by intro h; cases h)))).trans k6)) ?_
  refine ae (v:=vc c.lm) rfl (of_decide_eq_true rfl) ?_
  have e7:hget (G++[HObj.pcells ([PV.int IntKind.i64 0,PV.int IntKind.i64 0,PV.int IntKind.i64 0])]++[HObj.pcells ([PV.int IntKind.i64 0,PV.int IntKind.i64 0,PV.int IntKind.i64 0])]) G.length = .pcells ([PV.int IntKind.i64 0,PV.int IntKind.i64 0,PV.int IntKind.i64 0]):=(aA _ (by simp)).trans (ak G _)
  refine a8 _ e7 ?_
  refine aa rfl ?_
  refine a9 (vc c.rq) rfl ?_
  have e8:hget (hset (G++[HObj.pcells ([PV.int IntKind.i64 0,PV.int IntKind.i64 0,PV.int IntKind.i64 0])]++[HObj.pcells ([PV.int IntKind.i64 0,PV.int IntKind.i64 0,PV.int IntKind.i64 0])]) G.length (.pcells (vc c.rq))) (G++[HObj.pcells ([PV.int IntKind.i64 0,PV.int IntKind.i64 0,PV.int IntKind.i64 0])]).length = .pcells ([PV.int IntKind.i64 0,PV.int IntKind.i64 0,PV.int IntKind.i64 0]):=(an _ _ (by simp)).trans (ak _ _)
  refine a8 _ e8 ?_
  refine aa rfl ?_
  refine a9 (vc c.lm) rfl ?_
  have q6:G.length≠(G++[HObj.pcells ([PV.int IntKind.i64 0,PV.int IntKind.i64 0,PV.int IntKind.i64 0])]).length:=by simp
  have k6b:hget (G++[HObj.pcells ([PV.int IntKind.i64 0,PV.int IntKind.i64 0,PV.int IntKind.i64 0])]++[HObj.pcells ([PV.int IntKind.i64 0,PV.int IntKind.i64 0,PV.int IntKind.i64 0])]) _ = .pcells (ct c):=(aA _ (by simp; have:=ap k6 ((by intro h; cases h)); omega)).trans ((aA _ (ap k6 ((by intro h; cases h)))).trans k6)
  refine bq ?_ ?_ ?_
  ·rw [k6b,an _ _ (by have:=ap k6 ((by intro h; cases h)); omega),k6b]
  ·first | (rw [k6b]; rfl) | (rw [an _ _ (by have:=ap k6 ((by intro h; cases h)); omega),k6b]; rfl)
  have k7:=(an (hset (G++[HObj.pcells ([PV.int IntKind.i64 0,PV.int IntKind.i64 0,PV.int IntKind.i64 0])]++[HObj.pcells ([PV.int IntKind.i64 0,PV.int IntKind.i64 0,PV.int IntKind.i64 0])]) G.length (.pcells (vc c.rq))) (.pcells (vc c.lm)) q6).trans (ai _ (ap e7 ((by intro h; cases h))))
  have k8:=ai (H:=hset (G++[HObj.pcells ([PV.int IntKind.i64 0,PV.int IntKind.i64 0,PV.int IntKind.i64 0])]++[HObj.pcells ([PV.int IntKind.i64 0,PV.int IntKind.i64 0,PV.int IntKind.i64 0])]) G.length (.pcells (vc c.rq))) (id:=(G++[HObj.pcells ([PV.int IntKind.i64 0,PV.int IntKind.i64 0,PV.int IntKind.i64 0])]).length) (.pcells (vc c.lm)) (ap e8 ((by intro h; cases h)))
  have hK2:Kp H (hset (hset (G++[HObj.pcells ([PV.int IntKind.i64 0,PV.int IntKind.i64 0,PV.int IntKind.i64 0])]++[HObj.pcells ([PV.int IntKind.i64 0,PV.int IntKind.i64 0,PV.int IntKind.i64 0])]) G.length (.pcells (vc c.rq))) (G++[HObj.pcells ([PV.int IntKind.i64 0,PV.int IntKind.i64 0,PV.int IntKind.i64 0])]).length (.pcells (vc c.lm))):=
   ((hK.trans ((Kp.app G [HObj.pcells ([PV.int IntKind.i64 0,PV.int IntKind.i64 0,PV.int IntKind.i64 0])]).trans (Kp.app _ [HObj.pcells ([PV.int IntKind.i64 0,PV.int IntKind.i64 0,PV.int IntKind.i64 0])]))).set _ hK.1).set _ (by have:=hK.1; simp; omega)
  generalize hset (hset (G++[HObj.pcells ([PV.int IntKind.i64 0,PV.int IntKind.i64 0,PV.int IntKind.i64 0])]++[HObj.pcells ([PV.int IntKind.i64 0,PV.int IntKind.i64 0,PV.int IntKind.i64 0])]) G.length (.pcells (vc c.rq))) (G++[HObj.pcells ([PV.int IntKind.i64 0,PV.int IntKind.i64 0,PV.int IntKind.i64 0])]).length (.pcells (vc c.lm))=G2 at *
  clear e7 e8 k6b k6 hK
  cases hg:dG (p.l.take i)
  all_goals
   cases hz:dZ (p.l.take i)
  all_goals
   rw [hg] at sG
   rw [hz] at sZ
  all_goals
   repeat' (first
    | refine aP (fun _=>?_) (fun _=>?_)
    | refine aO (fun _=>?_) (fun _=>?_)
    | refine a8 _ k7 ?_
    | refine a8 _ k8 ?_
    | refine ab rfl ?_
    | fail)
  all_goals
   refine a9 _ (aq (by omega)) ?_
   refine Has.intro ⟨(i+1,G2),⟨hlt,hK2⟩,(by dsimp only; omega),⟨?_,?_,rfl,rfl,rfl,trivial⟩,rfl⟩
   ·show _=AV.pv (PV.bool (dG (p.l.take (i+1))))
    rw [sG]
    first
     | rfl
     | (rw [decide_eq_true (show isG c by unfold isG; omega)]; rfl)
     | (rw [decide_eq_false (show ¬ isG c by unfold isG; omega)]; rfl)
   ·show _=AV.pv (PV.bool (dZ (p.l.take (i+1))))
    rw [sZ]
    first
     | rfl
     | (rw [decide_eq_true (show isZ c by unfold isZ; omega)]; rfl)
     | (rw [decide_eq_false (show ¬ isZ c by unfold isZ; omega)]; rfl)
 ·have:i=p.l.length:=by omega
  subst this
  refine Has.intro ?_
  rw [List.take_length]
  by_cases hz:∀ c∈p.l,isZ c
  ·rw [show dZ p.l=true from decide_eq_true hz]
   refine Has.intro ⟨?_,hK⟩
   unfold classI; rw [if_pos hz]; rfl
  ·rw [show dZ p.l=false from decide_eq_false hz]
   by_cases hg:∀ c∈p.l,isG c
   ·rw [show dG p.l=true from decide_eq_true hg]
    refine Has.intro ⟨?_,hK⟩
    unfold classI; rw [if_neg hz,if_pos hg]; rfl
   ·rw [show dG p.l=false from decide_eq_false hg]
    refine Has.intro ⟨?_,hK⟩
    unfold classI; rw [if_neg hz,if_neg hg]; rfl
theorem class_ok (u:AV) (p:Pd) (hl:p.l.length≤maxLen) (H:Heap) (hu:PA u H p):Has (EE env (.fn 118) [u] H) (fun y=>y.1 = .pv (.int .i64 (classI p.l))∧Kp H y.2):=by
 rcases hu with ⟨x,rfl⟩ | hid
 ·exact class_plain x p hl H
 ·exact hid.elim
end Go.Proofs.YtflfdglnelbbiaaGreat
namespace Go.Proofs.YtflfdglnelbbiaaGreat
open Go Go.VM
set_option maxRecDepth 20000 in
set_option maxHeartbeats 4000000 in
theorem rclass_plain (x:Ext) (p:Pd) (hl:p.l.length≤maxLen) (H:Heap) :
 Has (EE env (.fn 84) [.pv (.agg (pdc p x))] H) (fun y=>y.1 = .pv (.int .i64 (classI p.l))∧Kp H y.2):=by
 rw [aS] at hl
 refine aK ?_
 refine a8 (.pcells (pdc p x)) (ak H _) ?_
 refine ab rfl ?_
 refine aw ?_
 refine aC (σ:=Nat × Heap) (fun s=>p.l.length-s.1) (fun s=>[(1,.ptr H.length 0),(3,.pv (.bool (dZ (p.l.take s.1)))),(9,.pv (.sl x p.l.length (flat ct p.l))),(10,.pv (.int .i64 p.l.length)),(11,.pv (.int .i64 s.1))]) (fun s=>s.2)
  (fun s=>s.1≤p.l.length∧Kp H s.2∧hget s.2 H.length = .pcells (pdc p x)) (fun ⟨i,G⟩ ⟨hi,hK,k1⟩ r=>?_) (0,_) ⟨Nat.zero_le _,Kp.app H _,ak H _⟩ ⟨rfl,rfl,rfl,rfl,rfl,trivial⟩ rfl
 dsimp only at hi hK k1 ⊢
 refine ah (fun hc=>?_) (fun hc=>?_)
 ·have hlt:i<p.l.length:=by omega
  obtain ⟨c,hcg⟩:∃ c,p.l[i]? = some c:=⟨_,List.getElem?_eq_getElem hlt⟩
  obtain ⟨g1,g2⟩:=aR ct_len hcg
  have sZ:=dZ_step hcg
  refine aa (by (first | rfl | (simp; done) | (simp; omega))) ?_
  refine ae g1 g2 ?_
  refine af ?_
  refine aa rfl ?_
  refine a9 (ct c) rfl ?_
  have k5:=ai (H:=G++[HObj.pcells ([PV.str ⟨#[]⟩,PV.int IntKind.i64 0,PV.int IntKind.i64 0,PV.int IntKind.i64 0,PV.int IntKind.i64 0,PV.int IntKind.i64 0,PV.int IntKind.i64 0,PV.bool false,PV.bool false,PV.bool false])]) (id:=G.length) (.pcells (ct c)) (by simp)
  have k1:=keep2 (.pcells ([PV.str ⟨#[]⟩,PV.int IntKind.i64 0,PV.int IntKind.i64 0,PV.int IntKind.i64 0,PV.int IntKind.i64 0,PV.int IntKind.i64 0,PV.int IntKind.i64 0,PV.bool false,PV.bool false,PV.bool false])) (.pcells (ct c)) k1 ((by intro h; cases h))
  have hK:=hK.trans (Kp.box G (.pcells ([PV.str ⟨#[]⟩,PV.int IntKind.i64 0,PV.int IntKind.i64 0,PV.int IntKind.i64 0,PV.int IntKind.i64 0,PV.int IntKind.i64 0,PV.int IntKind.i64 0,PV.bool false,PV.bool false,PV.bool false])) (.pcells (ct c)))
  generalize hset (G++[HObj.pcells ([PV.str ⟨#[]⟩,PV.int IntKind.i64 0,PV.int IntKind.i64 0,PV.int IntKind.i64 0,PV.int IntKind.i64 0,PV.int IntKind.i64 0,PV.int IntKind.i64 0,PV.bool false,PV.bool false,PV.bool false])]) G.length (.pcells (ct c))=G at *
  cases hz:dZ (p.l.take i)
  all_goals
   rw [hz] at sZ
  all_goals
   repeat' (first
    | refine aP (fun _=>?_) (fun _=>?_)
    | refine a8 _ k5 ?_
    | refine ab rfl ?_
    | fail)
  all_goals
   refine a9 _ (aq (by omega)) ?_
   refine Has.intro ⟨(i+1,G),⟨hlt,hK,k1⟩,(by dsimp only; omega),⟨rfl,?_,rfl,rfl,rfl,trivial⟩,rfl⟩
   show _=AV.pv (PV.bool (dZ (p.l.take (i+1))))
   rw [sZ]
   first
    | rfl
    | (rw [decide_eq_true (show isZ c by unfold isZ; omega)]; rfl)
    | (rw [decide_eq_false (show ¬ isZ c by unfold isZ; omega)]; rfl)
 ·have:i=p.l.length:=by omega
  subst this
  refine Has.intro ?_
  rw [List.take_length]
  by_cases hz:∀ c∈p.l,isZ c
  ·rw [show dZ p.l=true from decide_eq_true hz]
   refine Has.intro ⟨?_,hK⟩
   unfold classI; rw [if_pos hz]; rfl
  rw [show dZ p.l=false from decide_eq_false hz]
  refine a8 _ k1 ?_
  refine ab rfl ?_
  refine aw ?_
  refine aC (σ:=Nat × Heap) (fun s=>p.l.length-s.1) (fun s=>[(43,.pv (.sl x p.l.length (flat ct p.l))),(44,.pv (.int .i64 p.l.length)),(45,.pv (.int .i64 s.1))]) (fun s=>s.2)
   (fun s=>s.1≤p.l.length∧Kp H s.2 ∧ ∀ d∈p.l.take s.1,isG d) (fun ⟨i,G⟩ ⟨hi,hK,hG⟩ r=>?_) (0,_) ⟨Nat.zero_le _,hK,fun d hd=>by simp at hd⟩ ⟨rfl,rfl,rfl,trivial⟩ rfl
  dsimp only at hi hK hG ⊢
  refine ah (fun hc=>?_) (fun hc=>?_)
  ·have hlt:i<p.l.length:=by omega
   obtain ⟨c,hcg⟩:∃ c,p.l[i]? = some c:=⟨_,List.getElem?_eq_getElem hlt⟩
   obtain ⟨g1,g2⟩:=aR ct_len hcg
   have hmem:c∈p.l:=List.mem_of_getElem? hcg
   refine aa (by (first | rfl | (simp; done) | (simp; omega))) ?_
   refine ae g1 g2 ?_
   refine af ?_
   refine aa rfl ?_
   refine a9 (ct c) rfl ?_
   have k5:=ai (H:=G++[HObj.pcells ([PV.str ⟨#[]⟩,PV.int IntKind.i64 0,PV.int IntKind.i64 0,PV.int IntKind.i64 0,PV.int IntKind.i64 0,PV.int IntKind.i64 0,PV.int IntKind.i64 0,PV.bool false,PV.bool false,PV.bool false])]) (id:=G.length) (.pcells (ct c)) (by simp)
   have hK:=hK.trans (Kp.box G (.pcells ([PV.str ⟨#[]⟩,PV.int IntKind.i64 0,PV.int IntKind.i64 0,PV.int IntKind.i64 0,PV.int IntKind.i64 0,PV.int IntKind.i64 0,PV.int IntKind.i64 0,PV.bool false,PV.bool false,PV.bool false])) (.pcells (ct c)))
   generalize hset (G++[HObj.pcells ([PV.str ⟨#[]⟩,PV.int IntKind.i64 0,PV.int IntKind.i64 0,PV.int IntKind.i64 0,PV.int IntKind.i64 0,PV.int IntKind.i64 0,PV.int IntKind.i64 0,PV.bool false,PV.bool false,PV.bool false])]) G.length (.pcells (ct c))=G at *
   repeat' (first
    | refine aP (fun _=>?_) (fun _=>?_)
    | refine aO (fun _=>?_) (fun _=>?_)
    | refine a8 _ k5 ?_
    | refine ab rfl ?_
    | fail)
   all_goals first
    | (have hn:¬ isG c:=by unfold isG; omega
       refine Has.intro (Has.intro ⟨?_,hK⟩)
       unfold classI; rw [if_neg hz,if_neg (fun h=>hn (h c hmem))]; rfl)
    | (have hy:isG c:=by unfold isG; omega
       refine a9 _ (aq (by omega)) ?_
       exact Has.intro ⟨(i+1,G),⟨hlt,hK,(all_step hcg).2 ⟨hG,hy⟩⟩,(by dsimp only; omega),⟨rfl,rfl,rfl,trivial⟩,rfl⟩)
  ·have:i=p.l.length:=by omega
   subst this
   rw [List.take_length] at hG
   refine Has.intro (Has.intro ⟨?_,hK⟩)
   unfold classI; rw [if_neg hz,if_pos hG]; rfl
theorem rclass_ok (u:AV) (p:Pd) (hl:p.l.length≤maxLen) (H:Heap) (hu:PA u H p):Has (EE env (.fn 84) [u] H) (fun y=>y.1 = .pv (.int .i64 (classI p.l))∧Kp H y.2):=by
 rcases hu with ⟨x,rfl⟩ | hid
 ·exact rclass_plain x p hl H
 ·exact hid.elim
end Go.Proofs.YtflfdglnelbbiaaGreat
namespace Go.Proofs.YtflfdglnelbbiaaGreat
open Go Go.VM
def podP (p:Pd):Prop:=nameB p.name=true∧(-1000≤p.prio∧p.prio≤1000)∧(0≤p.pol∧p.pol≤2)∧(1≤p.l.length∧p.l.length≤6)∧(∀ (i:Nat) (c:Ct),p.l[i]? = some c→findI c.name p.l=(i:Int)∧cP c)∧(sumV (rqs p.l)).isSome=true∧(sumV (lms p.l)).isSome=true
noncomputable instance (p:Pd):Decidable (podP p):=Classical.propDecidable _
theorem findF_mem {name:List UInt8}:∀ (l:List Ct) (i:Nat) (c:Ct),c∈l→c.name=name→0≤findF name i l:=by
 intro l
 induction l with
 | nil=>intro i c h; cases h
 | cons d l ih=>
   intro i c h hn
   unfold findF
   split
   ·omega
   ·rename_i hd
    rcases List.mem_cons.1 h with rfl | h
    ·exact absurd hn hd
    ·exact ih _ c h hn
def small (p:Pd):Prop:=p.name.length≤maxLen∧p.l.length≤maxLen ∧ ∀ c∈p.l,c.name.length≤maxLen
set_option maxRecDepth 20000 in
set_option maxHeartbeats 4000000 in
theorem pod_plain (x:Ext) (p:Pd) (hs:small p) (H:Heap) :
 Has (EE env (.fn 116) [.pv (.agg (pdc p x))] H) (fun y=>y.1 = .pv (.bool (decide (podP p)))∧Kp H y.2):=by
 obtain ⟨hs1,hs2,hs3⟩:=hs
 have hl:=hs2
 rw [aS] at hl
 have k1:=ak H (HObj.pcells (pdc p x))
 have hK:=Kp.app H [HObj.pcells (pdc p x)]
 refine aK ?_
 refine a8 _ k1 ?_
 refine ab rfl ?_
 refine a8 _ k1 ?_
 refine ab rfl ?_
 have bad:∀ {G:Heap},Kp H G→¬ podP p→(fun y:AV × Heap=>y.1 = .pv (.bool (decide (podP p)))∧Kp H y.2) (AV.pv (.bool false),G):=fun hK h=>⟨congrArg AV.pv (no (p:=podP p) h),hK⟩
 refine aI (name_dec p.name hs1) (fun h1=>?_) (fun h1=>?_)
 rotate_left
 ·exact Has.intro (bad hK fun h=>h1 h.1)
 refine a8 _ k1 ?_
 refine ab rfl ?_
 refine ah (fun h2=>?_) (fun h2=>?_)
 ·exact Has.intro (bad hK fun h=>by have:=h.2.1; omega)
 refine a8 _ k1 ?_
 refine ab rfl ?_
 refine ah (fun h3=>?_) (fun h3=>?_)
 ·exact Has.intro (bad hK fun h=>by have:=h.2.1; omega)
 refine a8 _ k1 ?_
 refine ab rfl ?_
 refine ah (fun h4=>?_) (fun h4=>?_)
 ·exact Has.intro (bad hK fun h=>by have:=h.2.2.1; omega)
 refine a8 _ k1 ?_
 refine ab rfl ?_
 refine ah (fun h5=>?_) (fun h5=>?_)
 ·exact Has.intro (bad hK fun h=>by have:=h.2.2.1; omega)
 refine ah (fun h6=>?_) (fun h6=>?_)
 ·exact Has.intro (bad hK fun h=>by have:=h.2.2.2.1; omega)
 refine ah (fun h7=>?_) (fun h7=>?_)
 ·exact Has.intro (bad hK fun h=>by have:=h.2.2.2.1; omega)
 refine a8 _ k1 ?_
 refine ab rfl ?_
 refine aw ?_
 refine aC (σ:=Nat × Heap) (fun s=>p.l.length-s.1) (fun s=>[(1,.ptr H.length 0),(47,.pv (.sl x p.l.length (flat ct p.l))),(48,.pv (.int .i64 p.l.length)),(49,.pv (.int .i64 s.1))]) (fun s=>s.2)
  (fun s=>s.1≤p.l.length∧Kp H s.2∧hget s.2 H.length = .pcells (pdc p x) ∧ ∀ (j:Nat) (c:Ct),j<s.1→p.l[j]? = some c→findI c.name p.l=(j:Int)∧cP c) (fun ⟨i,G⟩ ⟨hi,hK,k1,hA⟩ r=>?_) (0,_) ⟨Nat.zero_le _,hK,k1,fun j c h=>by omega⟩ ⟨rfl,rfl,rfl,rfl,trivial⟩ rfl
 dsimp only at hi hK k1 hA ⊢
 refine ah (fun hc=>?_) (fun hc=>?_)
 ·have hlt:i<p.l.length:=by omega
  obtain ⟨c,hcg⟩:∃ c,p.l[i]? = some c:=⟨_,List.getElem?_eq_getElem hlt⟩
  obtain ⟨g1,g2⟩:=aR ct_len hcg
  have hmem:c∈p.l:=List.mem_of_getElem? hcg
  refine aa (by (first | rfl | (simp; done) | (simp; omega))) ?_
  refine ae g1 g2 ?_
  refine af ?_
  refine aa rfl ?_
  refine a9 (ct c) rfl ?_
  have k5:=ai (H:=G++[HObj.pcells ([PV.str ⟨#[]⟩,PV.int IntKind.i64 0,PV.int IntKind.i64 0,PV.int IntKind.i64 0,PV.int IntKind.i64 0,PV.int IntKind.i64 0,PV.int IntKind.i64 0,PV.bool false,PV.bool false,PV.bool false])]) (id:=G.length) (.pcells (ct c)) (by simp)
  have k1:=keep2 (.pcells ([PV.str ⟨#[]⟩,PV.int IntKind.i64 0,PV.int IntKind.i64 0,PV.int IntKind.i64 0,PV.int IntKind.i64 0,PV.int IntKind.i64 0,PV.int IntKind.i64 0,PV.bool false,PV.bool false,PV.bool false])) (.pcells (ct c)) k1 ((by intro h; cases h))
  have hK:=hK.trans (Kp.box G (.pcells ([PV.str ⟨#[]⟩,PV.int IntKind.i64 0,PV.int IntKind.i64 0,PV.int IntKind.i64 0,PV.int IntKind.i64 0,PV.int IntKind.i64 0,PV.int IntKind.i64 0,PV.bool false,PV.bool false,PV.bool false])) (.pcells (ct c)))
  generalize hset (G++[HObj.pcells ([PV.str ⟨#[]⟩,PV.int IntKind.i64 0,PV.int IntKind.i64 0,PV.int IntKind.i64 0,PV.int IntKind.i64 0,PV.int IntKind.i64 0,PV.int IntKind.i64 0,PV.bool false,PV.bool false,PV.bool false])]) G.length (.pcells (ct c))=G at *
  refine a8 _ k1 ?_
  refine ae (v:=pdc p x) rfl (of_decide_eq_true rfl) ?_
  refine a8 _ k5 ?_
  refine ab rfl ?_
  refine am ((find_ok _ p hs2 c.name G (.inl ⟨x,rfl⟩)).mono fun y hy=>?_)
  obtain ⟨v,H'⟩:=y
  obtain ⟨rfl,J,rfl⟩:=hy
  have k5:=(aA J (ap k5 ((by intro h; cases h)))).trans k5
  have k1:=(aA J (ap k1 ((by intro h; cases h)))).trans k1
  have hK:=hK.trans (Kp.app G J)
  generalize G++J=G at *
  have hf:=findF_mem p.l 0 c hmem rfl
  have hff:findI c.name p.l=findF c.name 0 p.l:=rfl
  rw [←hff] at hf
  refine aO (fun h8=>?_) (fun h8=>?_)
  ·refine Has.intro (Has.intro (bad hK fun h=>?_))
   have:=(h.2.2.2.2.1 i c hcg).1
   rw [if_neg (by omega)] at h8
   exact h8 this
  ·rw [if_neg (by omega)] at h8
   refine a8 _ k5 ?_
   refine ae (v:=ct c) rfl (of_decide_eq_true rfl) ?_
   refine aI (ctr_ok c (hs3 c hmem)) (fun h9=>?_) (fun h9=>?_)
   ·refine a9 _ (aq (by omega)) ?_
    refine Has.intro ⟨(i+1,G),⟨hlt,hK,k1,fun j d hj hd=>?_⟩,(by dsimp only; omega),⟨rfl,rfl,rfl,rfl,trivial⟩,rfl⟩
    dsimp only at hj
    by_cases e:j=i
    ·subst e
     rw [hcg] at hd; injection hd with hd; subst hd
     exact ⟨h8,h9⟩
    ·exact hA j d (by omega) hd
   ·exact Has.intro (Has.intro (bad hK fun h=>h9 (h.2.2.2.2.1 i c hcg).2))
 ·have:i=p.l.length:=by omega
  subst this
  refine Has.intro ?_
  refine a8 _ k1 ?_
  refine ae (v:=pdc p x) rfl (of_decide_eq_true rfl) ?_
  refine am ((sums_ok _ p (by omega) G (.inl ⟨x,rfl⟩)).mono fun y hy=>?_)
  obtain ⟨v,H'⟩:=y
  obtain ⟨rfl,hK2⟩:=hy
  have hK:=hK.trans hK2
  dsimp only at hK ⊢
  refine a8 (.pcells ([PV.int IntKind.i64 0,PV.int IntKind.i64 0,PV.int IntKind.i64 0])) ((aA _ (by simp)).trans (ak H' _)) ?_
  refine aa rfl ?_
  refine ao ?_
  refine a8 (.pcells ([PV.int IntKind.i64 0,PV.int IntKind.i64 0,PV.int IntKind.i64 0])) ((an _ _ (by simp)).trans (ak _ _)) ?_
  refine aa rfl ?_
  refine ao ?_
  refine Has.intro ⟨?_,((hK.trans ((Kp.app H' [HObj.pcells ([PV.int IntKind.i64 0,PV.int IntKind.i64 0,PV.int IntKind.i64 0])]).trans (Kp.app _ [HObj.pcells ([PV.int IntKind.i64 0,PV.int IntKind.i64 0,PV.int IntKind.i64 0])]))).set _ hK.1).set _ (by have:=hK.1; simp; omega)⟩
  show AV.pv (PV.bool ((sumV (rqs p.l)).isSome&&(sumV (lms p.l)).isSome))=_
  congr 2
  rw [Bool.eq_iff_iff,Bool.and_eq_true,decide_eq_true_iff]
  exact ⟨fun h=>⟨h1,by omega,by omega,by omega,fun j c hj=>hA j c (List.getElem?_eq_some_iff.1 hj).1 hj,h.1,h.2⟩,fun h=>⟨h.2.2.2.2.2.1,h.2.2.2.2.2.2⟩⟩
theorem pod_ok (u:AV) (p:Pd) (hs:small p) (H:Heap) (hu:PA u H p):Has (EE env (.fn 116) [u] H) (fun y=>y.1 = .pv (.bool (decide (podP p)))∧Kp H y.2):=by
 rcases hu with ⟨x,rfl⟩ | hid
 ·exact pod_plain x p hs H
 ·exact hid.elim
end Go.Proofs.YtflfdglnelbbiaaGreat
namespace Go.Proofs.YtflfdglnelbbiaaGreat
open Go Go.VM
theorem flat10 {l:List Ct} {i:Nat} (h:i≤l.length):((flat ct l).drop (mulE 0 10)).take (mulE (((i:Nat):Int).toNat-0) 10)=flat ct (l.take i):=by
 show ((flat ct l).drop 0).take (i*10)=_
 rw [List.drop_zero]
 conv=>lhs; rw [←List.take_append_drop i l,←flat_app]
 have hl:(flat ct (l.take i)).length=i*10:=by rw [flat_len ct_len,List.length_take]; congr 1; omega
 rw [List.take_append_of_le_length (by omega),List.take_of_length_le (by omega)]
theorem findF_first {name:List UInt8}:∀ (l:List Ct) (k i:Nat) (c:Ct),l[i]? = some c→c.name=name→(∀ (j:Nat) (d:Ct),j<i→l[j]? = some d→d.name≠name)→findF name k l=((k+i:Nat):Int):=by
 intro l
 induction l with
 | nil=>intro k i c h; simp at h
 | cons d l ih=>
   intro k i c h hn ha
   unfold findF
   cases i with
   | zero=>
     simp at h; subst h
     rw [if_pos hn]; rfl
   | succ i=>
     rw [if_neg (ha 0 d (by omega) rfl)]
     simp at h
     rw [ih (k+1) i c h hn (fun j e hj he=>ha (j+1) e (by omega) (by simpa using he))]
     congr 1; omega
theorem findF_early {name:List UInt8}:∀ (l:List Ct) (k j:Nat) (d:Ct),l[j]? = some d→d.name=name→findF name k l≤((k+j:Nat):Int):=by
 intro l
 induction l with
 | nil=>intro k i c h; simp at h
 | cons d l ih=>
   intro k j e h hn
   unfold findF
   split
   ·omega
   ·rename_i hd
    cases j with
    | zero=>simp at h; subst h; exact absurd hn hd
    | succ j=>
      simp at h
      have:=ih (k+1) j e h hn
      omega
set_option maxRecDepth 20000 in
set_option maxHeartbeats 4000000 in
theorem rpod_plain (x:Ext) (p:Pd) (hs:small p) (H:Heap) :
 Has (EE env (.fn 82) [.pv (.agg (pdc p x))] H) (fun y=>y.1 = .pv (.bool (decide (podP p)))∧Kp H y.2):=by
 obtain ⟨hs1,hs2,hs3⟩:=hs
 have hl:=hs2
 rw [aS] at hl
 have k1:=ak H (HObj.pcells (pdc p x))
 have hK:=Kp.app H [HObj.pcells (pdc p x)]
 refine aK ?_
 refine a8 _ k1 ?_
 refine ab rfl ?_
 have bad:∀ {G:Heap},Kp H G→¬ podP p→(fun y:AV × Heap=>y.1 = .pv (.bool (decide (podP p)))∧Kp H y.2) (AV.pv (.bool false),G):=fun hK h=>⟨congrArg AV.pv (no (p:=podP p) h),hK⟩
 refine aI (rname_dec p.name hs1) (fun h1=>?_) (fun h1=>?_)
 rotate_left
 ·exact Has.intro (bad hK fun h=>h1 h.1)
 refine a8 _ k1 ?_
 refine ab rfl ?_
 refine ah (fun h2=>?_) (fun h2=>?_)
 ·exact Has.intro (bad hK fun h=>by have:=h.2.1; omega)
 refine a8 _ k1 ?_
 refine ab rfl ?_
 refine ah (fun h3=>?_) (fun h3=>?_)
 ·exact Has.intro (bad hK fun h=>by have:=h.2.1; omega)
 refine a8 _ k1 ?_
 refine ab rfl ?_
 refine ah (fun h4=>?_) (fun h4=>?_)
 ·exact Has.intro (bad hK fun h=>by have:=h.2.2.1; omega)
 refine a8 _ k1 ?_
 refine ab rfl ?_
 refine ah (fun h5=>?_) (fun h5=>?_)
 ·exact Has.intro (bad hK fun h=>by have:=h.2.2.1; omega)
 refine a8 _ k1 ?_
 refine ab rfl ?_
 refine ah (fun h6=>?_) (fun h6=>?_)
 ·exact Has.intro (bad hK fun h=>by have:=h.2.2.2.1; omega)
 refine a8 _ k1 ?_
 refine ab rfl ?_
 refine ah (fun h7=>?_) (fun h7=>?_)
 ·exact Has.intro (bad hK fun h=>by have:=h.2.2.2.1; omega)
 refine a8 _ k1 ?_
 refine ab rfl ?_
 refine aw ?_
 refine aC (σ:=Nat × Heap) (fun s=>p.l.length-s.1) (fun s=>[(1,.ptr H.length 0),(47,.pv (.sl x p.l.length (flat ct p.l))),(48,.pv (.int .i64 p.l.length)),(49,.pv (.int .i64 s.1))]) (fun s=>s.2)
  (fun s=>s.1≤p.l.length∧Kp H s.2∧hget s.2 H.length = .pcells (pdc p x) ∧ ∀ (j:Nat) (c:Ct),j<s.1→p.l[j]? = some c→findI c.name p.l=(j:Int)∧cP c) (fun ⟨i,G⟩ ⟨hi,hK,k1,hA⟩ r=>?_) (0,_) ⟨Nat.zero_le _,hK,k1,fun j c h=>by omega⟩ ⟨rfl,rfl,rfl,rfl,trivial⟩ rfl
 dsimp only at hi hK k1 hA ⊢
 refine ah (fun hc=>?_) (fun hc=>?_)
 ·have hlt:i<p.l.length:=by omega
  obtain ⟨c,hcg⟩:∃ c,p.l[i]? = some c:=⟨_,List.getElem?_eq_getElem hlt⟩
  obtain ⟨g1,g2⟩:=aR ct_len hcg
  have hmem:c∈p.l:=List.mem_of_getElem? hcg
  refine aa (by (first | rfl | (simp; done) | (simp; omega))) ?_
  refine ae g1 g2 ?_
  refine af ?_
  refine aa rfl ?_
  refine a9 (ct c) rfl ?_
  obtain ⟨q,hq⟩:∃ q,q=G.length:=⟨_,rfl⟩
  have k5:=ai (H:=G++[HObj.pcells ([PV.str ⟨#[]⟩,PV.int IntKind.i64 0,PV.int IntKind.i64 0,PV.int IntKind.i64 0,PV.int IntKind.i64 0,PV.int IntKind.i64 0,PV.int IntKind.i64 0,PV.bool false,PV.bool false,PV.bool false])]) (id:=G.length) (.pcells (ct c)) (by simp)
  have k1:=keep2 (.pcells ([PV.str ⟨#[]⟩,PV.int IntKind.i64 0,PV.int IntKind.i64 0,PV.int IntKind.i64 0,PV.int IntKind.i64 0,PV.int IntKind.i64 0,PV.int IntKind.i64 0,PV.bool false,PV.bool false,PV.bool false])) (.pcells (ct c)) k1 ((by intro h; cases h))
  have hK:=hK.trans (Kp.box G (.pcells ([PV.str ⟨#[]⟩,PV.int IntKind.i64 0,PV.int IntKind.i64 0,PV.int IntKind.i64 0,PV.int IntKind.i64 0,PV.int IntKind.i64 0,PV.int IntKind.i64 0,PV.bool false,PV.bool false,PV.bool false])) (.pcells (ct c)))
  generalize hset (G++[HObj.pcells ([PV.str ⟨#[]⟩,PV.int IntKind.i64 0,PV.int IntKind.i64 0,PV.int IntKind.i64 0,PV.int IntKind.i64 0,PV.int IntKind.i64 0,PV.int IntKind.i64 0,PV.bool false,PV.bool false,PV.bool false])]) G.length (.pcells (ct c))=G at *
  rw [←hq] at k5 ⊢
  refine a8 _ k5 ?_
  refine ae (v:=ct c) rfl (of_decide_eq_true rfl) ?_
  refine aI (rctr_ok c (hs3 c hmem)) (fun h9=>?_) (fun h9=>?_)
  rotate_left
  ·exact Has.intro (Has.intro (bad hK fun h=>h9 (h.2.2.2.2.1 i c hcg).2))
  refine a8 _ k1 ?_
  refine ab rfl ?_
  refine aa (by (first | rfl | (simp; done) | (simp; omega))) ?_
  refine a9 (flat ct (p.l.take i)) (flat10 hi) ?_
  refine aw ?_
  refine aC (σ:=Nat × Heap) (fun s=>i-s.1) (fun s=>[(1,.ptr H.length 0),(4,.ptr q 0),(47,.pv (.sl x p.l.length (flat ct p.l))),(48,.pv (.int .i64 p.l.length)),(49,.pv (.int .i64 i)),(60,.pv (.sl (x.part false false) i (flat ct (p.l.take i)))),(61,.pv (.int .i64 i)),(62,.pv (.int .i64 s.1))]) (fun s=>s.2)
   (fun s=>s.1≤i∧Kp H s.2∧hget s.2 H.length = .pcells (pdc p x)∧hget s.2 q = .pcells (ct c) ∧ ∀ (j:Nat) (d:Ct),j<s.1→p.l[j]? = some d→d.name≠c.name) (fun ⟨m,G⟩ ⟨hm,hK,k1,k5,hB⟩ r=>?_) (0,_) ⟨Nat.zero_le _,hK,k1,k5,fun j d h=>by omega⟩ ⟨rfl,rfl,rfl,rfl,rfl,rfl,rfl,rfl,trivial⟩ rfl
  dsimp only at hm hK k1 k5 hB ⊢
  refine ah (fun hc2=>?_) (fun hc2=>?_)
  ·have hlt2:m<i:=by omega
   obtain ⟨d,hdg⟩:∃ d,p.l[m]? = some d:=⟨_,List.getElem?_eq_getElem (show m<p.l.length by omega)⟩
   have hdt:(p.l.take i)[m]? = some d:=by rw [List.getElem?_take_of_lt hlt2]; exact hdg
   obtain ⟨f1,f2⟩:=aR ct_len hdt
   refine aa (by (first | rfl | (simp; done) | (simp; omega))) ?_
   refine ae f1 f2 ?_
   refine af ?_
   refine aa rfl ?_
   refine a9 (ct d) rfl ?_
   have k6:=ai (H:=G++[HObj.pcells ([PV.str ⟨#[]⟩,PV.int IntKind.i64 0,PV.int IntKind.i64 0,PV.int IntKind.i64 0,PV.int IntKind.i64 0,PV.int IntKind.i64 0,PV.int IntKind.i64 0,PV.bool false,PV.bool false,PV.bool false])]) (id:=G.length) (.pcells (ct d)) (by simp)
   have k5:=keep2 (.pcells ([PV.str ⟨#[]⟩,PV.int IntKind.i64 0,PV.int IntKind.i64 0,PV.int IntKind.i64 0,PV.int IntKind.i64 0,PV.int IntKind.i64 0,PV.int IntKind.i64 0,PV.bool false,PV.bool false,PV.bool false])) (.pcells (ct d)) k5 ((by intro h; cases h))
   have k1:=keep2 (.pcells ([PV.str ⟨#[]⟩,PV.int IntKind.i64 0,PV.int IntKind.i64 0,PV.int IntKind.i64 0,PV.int IntKind.i64 0,PV.int IntKind.i64 0,PV.int IntKind.i64 0,PV.bool false,PV.bool false,PV.bool false])) (.pcells (ct d)) k1 ((by intro h; cases h))
   have hK:=hK.trans (Kp.box G (.pcells ([PV.str ⟨#[]⟩,PV.int IntKind.i64 0,PV.int IntKind.i64 0,PV.int IntKind.i64 0,PV.int IntKind.i64 0,PV.int IntKind.i64 0,PV.int IntKind.i64 0,PV.bool false,PV.bool false,PV.bool false])) (.pcells (ct d)))
   generalize hset (G++[HObj.pcells ([PV.str ⟨#[]⟩,PV.int IntKind.i64 0,PV.int IntKind.i64 0,PV.int IntKind.i64 0,PV.int IntKind.i64 0,PV.int IntKind.i64 0,PV.int IntKind.i64 0,PV.bool false,PV.bool false,PV.bool false])]) G.length (.pcells (ct d))=G at *
   refine a8 _ k5 ?_
   refine ab rfl ?_
   refine a8 _ k6 ?_
   refine ab rfl ?_
   refine aD (c:=decide (c.name=d.name)) (str_beq _ _) ?_
   by_cases hn:c.name=d.name
   ·rw [decide_eq_true hn]
    refine Has.intro (Has.intro (Has.intro (bad hK fun h=>?_)))
    have h1:=(h.2.2.2.2.1 i c hcg).1
    have h2:=findF_early p.l 0 m d hdg hn.symm
    have h3:findI c.name p.l=findF c.name 0 p.l:=rfl
    omega
   ·rw [decide_eq_false hn]
    refine a9 _ (aq (by omega)) ?_
    refine Has.intro ⟨(m+1,G),⟨hlt2,hK,k1,k5,fun j e hj he=>?_⟩,(by dsimp only; omega),⟨rfl,rfl,rfl,rfl,rfl,rfl,rfl,rfl,trivial⟩,rfl⟩
    dsimp only at hj
    by_cases ej:j=m
    ·subst ej
     rw [hdg] at he; injection he with he; subst he
     exact fun e=>hn e.symm
    ·exact hB j e (by omega) he
  ·refine Has.intro ?_
   refine a9 _ (aq (by omega)) ?_
   refine Has.intro ⟨(i+1,G),⟨hlt,hK,k1,fun j d hj hd=>?_⟩,(by dsimp only; omega),⟨rfl,rfl,rfl,rfl,trivial⟩,rfl⟩
   dsimp only at hj
   by_cases e:j=i
   ·subst e
    rw [hcg] at hd; injection hd with hd; subst hd
    refine ⟨?_,h9⟩
    have:=findF_first p.l 0 j c hcg rfl (fun m d hm hd=>hB m d (by omega) hd)
    rw [Nat.zero_add] at this
    exact this
   ·exact hA j d (by omega) hd
 ·have:i=p.l.length:=by omega
  subst this
  refine Has.intro ?_
  refine a8 _ k1 ?_
  refine ae (v:=pdc p x) rfl (of_decide_eq_true rfl) ?_
  refine am ((rsums_ok _ p (by omega) G (.inl ⟨x,rfl⟩)).mono fun y hy=>?_)
  obtain ⟨v,H'⟩:=y
  obtain ⟨rfl,hK2⟩:=hy
  have hK:=hK.trans hK2
  dsimp only at hK ⊢
  refine a8 (.pcells ([PV.int IntKind.i64 0,PV.int IntKind.i64 0,PV.int IntKind.i64 0])) ((aA _ (by simp)).trans (ak H' _)) ?_
  refine aa rfl ?_
  refine ao ?_
  refine a8 (.pcells ([PV.int IntKind.i64 0,PV.int IntKind.i64 0,PV.int IntKind.i64 0])) ((an _ _ (by simp)).trans (ak _ _)) ?_
  refine aa rfl ?_
  refine ao ?_
  refine Has.intro ⟨?_,((hK.trans ((Kp.app H' [HObj.pcells ([PV.int IntKind.i64 0,PV.int IntKind.i64 0,PV.int IntKind.i64 0])]).trans (Kp.app _ [HObj.pcells ([PV.int IntKind.i64 0,PV.int IntKind.i64 0,PV.int IntKind.i64 0])]))).set _ hK.1).set _ (by have:=hK.1; simp; omega)⟩
  show AV.pv (PV.bool ((sumV (rqs p.l)).isSome&&(sumV (lms p.l)).isSome))=_
  congr 2
  rw [Bool.eq_iff_iff,Bool.and_eq_true,decide_eq_true_iff]
  exact ⟨fun h=>⟨h1,by omega,by omega,by omega,fun j c hj=>hA j c (List.getElem?_eq_some_iff.1 hj).1 hj,h.1,h.2⟩,fun h=>⟨h.2.2.2.2.2.1,h.2.2.2.2.2.2⟩⟩
theorem rpod_ok (u:AV) (p:Pd) (hs:small p) (H:Heap) (hu:PA u H p):Has (EE env (.fn 82) [u] H) (fun y=>y.1 = .pv (.bool (decide (podP p)))∧Kp H y.2):=by
 rcases hu with ⟨x,rfl⟩ | hid
 ·exact rpod_plain x p hs H
 ·exact hid.elim
end Go.Proofs.YtflfdglnelbbiaaGreat
namespace Go.Proofs.YtflfdglnelbbiaaGreat
open Go Go.VM
noncomputable instance:DecidableEq Ct:=fun a b=>Classical.propDecidable (a=b)
theorem ct_eq (a b:Ct):aggEq [.s,.i,.i,.i,.i,.i,.i,.b,.b,.b] (ct a) (ct b)=some (decide (a=b)):=by
 show some _=some _
 congr 1
 rw [str_beq,Bool.eq_iff_iff,decide_eq_true_iff]
 obtain ⟨n,⟨a1,a2,a3⟩,⟨a4,a5,a6⟩,r0,r1,r2⟩:=a
 obtain ⟨m,⟨b1,b2,b3⟩,⟨b4,b5,b6⟩,s0,s1,s2⟩:=b
 simp only [Bool.and_eq_true,beq_iff_eq,decide_eq_true_iff,Ct.mk.injEq,Vc.mk.injEq]
 constructor
 ·rintro ⟨h1,h2,h3,h4,h5,h6,h7,h8,h9,h10,_⟩
  exact ⟨h1,⟨h2,h3,h4⟩,⟨h5,h6,h7⟩,h8,h9,h10⟩
 ·rintro ⟨h1,⟨h2,h3,h4⟩,⟨h5,h6,h7⟩,h8,h9,h10⟩
  exact ⟨h1,h2,h3,h4,h5,h6,h7,h8,h9,h10,trivial⟩
theorem lists_eq {a b:List Ct} (hl:a.length=b.length) (h:∀ (j:Nat) (c d:Ct),a[j]? = some c→b[j]? = some d→c=d):a=b:=by
 refine List.ext_getElem? fun j=>?_
 cases ha:a[j]? with
 | none=>rw [List.getElem?_eq_none_iff] at ha; symm; rw [List.getElem?_eq_none_iff]; omega
 | some c=>
   obtain ⟨hj,_⟩:=List.getElem?_eq_some_iff.1 ha
   have hb:b[j]? = some _:=List.getElem?_eq_getElem (show j<b.length by omega)
   rw [hb,h j c _ ha hb]
end Go.Proofs.YtflfdglnelbbiaaGreat
namespace Go.Proofs.YtflfdglnelbbiaaGreat
open Go Go.VM
def sameP (a b:Pd):Prop:=a.name=b.name∧a.prio=b.prio∧a.pol=b.pol∧a.l=b.l
noncomputable instance (a b:Pd):Decidable (sameP a b):=Classical.propDecidable _
theorem str_bne (a b:List UInt8):(!((⟨a.toArray⟩:ByteArray).toList==(⟨b.toArray⟩:ByteArray).toList))=decide (a≠b):=by
 rw [str_beq]; by_cases h:a=b<;>simp [h]
set_option maxHeartbeats 1000000 in
theorem rsame_ok (x y:Ext) (a b:Pd) (hl:a.l.length≤maxLen):EP (EE env) 40 [.agg (pdc a x),.agg (pdc b y)]=some (.bool (decide (sameP a b))):=by
 rw [aS] at hl
 refine Has.eq (aE ?_)
 (repeat (first | refine a8 _ rfl ?_ | refine ab rfl ?_))
 refine aD (c:=decide (a.name≠b.name)) (str_bne _ _) ?_
 by_cases h1:a.name=b.name
 rotate_left
 ·rw [decide_eq_true h1]
  exact Has.intro (Has.intro (no (fun h=>h1 h.1)))
 rw [decide_eq_false (fun h=>h h1)]
 (repeat (first | refine a8 _ rfl ?_ | refine ab rfl ?_))
 refine aO (fun h2=>?_) (fun h2=>?_)
 ·exact Has.intro (Has.intro (no (fun h=>h2 h.2.1)))
 (repeat (first | refine a8 _ rfl ?_ | refine ab rfl ?_))
 refine aO (fun h3=>?_) (fun h3=>?_)
 ·exact Has.intro (Has.intro (no (fun h=>h3 h.2.2.1)))
 (repeat (first | refine a8 _ rfl ?_ | refine ab rfl ?_))
 refine aO (fun h4=>?_) (fun h4=>?_)
 ·exact Has.intro (Has.intro (no (fun h=>h4 (by rw [h.2.2.2]))))
 (repeat (first | refine a8 _ rfl ?_ | refine ab rfl ?_))
 have hab:a.l.length=b.l.length:=by omega
 refine aw ?_
 refine aC (σ:=Nat) (fun i=>a.l.length-i) (fun i=>[(2,.ptr 0 0),(3,.ptr 1 0),(36,.pv (.int .i64 a.l.length)),(37,.pv (.int .i64 i))]) (fun _=>[.pcells (pdc a x),.pcells (pdc b y)]) (fun i=>i≤a.l.length ∧ ∀ (j:Nat) (c d:Ct),j<i→a.l[j]? = some c→b.l[j]? = some d→c=d) (fun i ⟨hi,hA⟩ r=>?_) 0 ⟨Nat.zero_le _,fun j c d h=>by omega⟩ ⟨rfl,rfl,rfl,rfl,trivial⟩ rfl
 refine ah (fun hc=>?_) (fun hc=>?_)
 ·have hlt:i<a.l.length:=by omega
  obtain ⟨c,hcg⟩:∃ c,a.l[i]? = some c:=⟨_,List.getElem?_eq_getElem hlt⟩
  obtain ⟨d,hdg⟩:∃ c,b.l[i]? = some c:=⟨_,List.getElem?_eq_getElem (show i<b.l.length by omega)⟩
  obtain ⟨g1,g2⟩:=aR ct_len hcg
  obtain ⟨f1,f2⟩:=aR ct_len hdg
  (repeat (first | refine a8 _ rfl ?_ | refine ab rfl ?_))
  refine aa (by (first | rfl | (simp; done) | (simp; omega))) ?_
  refine ae g1 g2 ?_
  (repeat (first | refine a8 _ rfl ?_ | refine ab rfl ?_))
  refine aa (by (first | rfl | (simp; done) | (simp; omega))) ?_
  refine ae f1 f2 ?_
  refine bj (ct_eq c d) ?_
  by_cases e:c=d
  ·refine aD (c:=false) (by rw [decide_eq_true e]; rfl) ?_
   refine a9 _ (aq (by omega)) ?_
   refine Has.intro ⟨i+1,⟨hlt,fun j c' d' hj h1 h2=>?_⟩,by omega,⟨rfl,rfl,rfl,rfl,trivial⟩,rfl⟩
   by_cases ej:j=i
   ·subst ej
    rw [hcg] at h1; rw [hdg] at h2
    injection h1 with h1; injection h2 with h2
    rw [←h1,←h2]; exact e
   ·exact hA j c' d' (by omega) h1 h2
  ·refine aD (c:=true) (by rw [decide_eq_false e]; rfl) ?_
   refine Has.intro (Has.intro (Has.intro (no (fun h=>e ?_))))
   rw [h.2.2.2,hdg] at hcg
   injection hcg with hcg; exact hcg.symm
 ·have:i=a.l.length:=by omega
  subst this
  exact Has.intro (Has.intro (Has.intro (yes ⟨h1,h2,h3,lists_eq hab (fun j c d h1 h2=>hA j c d (List.getElem?_eq_some_iff.1 h1).1 h1 h2)⟩)))
end Go.Proofs.YtflfdglnelbbiaaGreat
namespace Go.Proofs.YtflfdglnelbbiaaGreat.T
open Go Go.VM
def fit (n:Int):Bool:=decide (-9223372036854775808≤n)&&decide (n≤9223372036854775807)
def told (n:Int):PV:=.tup [.int .i64 (if fit n then n else 0),.bool (fit n)]
theorem fit_true {n:Int} (h:fit n=true) : -9223372036854775808≤n∧n≤9223372036854775807:=by
 unfold fit at h; rw [Bool.and_eq_true,decide_eq_true_eq,decide_eq_true_eq] at h; exact h
theorem fit_iff (n:Int):fit n=true ↔ -9223372036854775808≤n∧n≤9223372036854775807:=by
 unfold fit; rw [Bool.and_eq_true,decide_eq_true_eq,decide_eq_true_eq]
theorem lt0 (z:BitVec 64):decide (z.toInt<0)=z.msb:=(BitVec.msb_eq_toInt).symm
theorem bmod_add (x y:BitVec 64):(x+y).toInt=if fit (x.toInt+y.toInt) then x.toInt+y.toInt else if x.toInt+y.toInt<0 then x.toInt+y.toInt+18446744073709551616 else x.toInt+y.toInt-18446744073709551616:=by
 have hx:=toInt_range x
 have hy:=toInt_range y
 rw [BitVec.toInt_add,Int.bmod_def]
 have e:((2 ^ 64:Nat):Int)=18446744073709551616:=rfl
 rw [e]
 by_cases h:fit (x.toInt+y.toInt)=true
 ·rw [if_pos h]; have:=fit_true h; omega
 ·rw [if_neg h]
  rw [fit_iff] at h
  omega
theorem over_add (x y:BitVec 64):decide (((x ^^^ (x+y)) &&& (y ^^^ (x+y))).toInt<0) = !fit (x.toInt+y.toInt):=by
 rw [lt0,BitVec.msb_and,BitVec.msb_xor,BitVec.msb_xor,←lt0,←lt0,←lt0]
 have h:=bmod_add x y
 have hx:=toInt_range x
 have hy:=toInt_range y
 rw [Bool.eq_iff_iff]
 cases hf:fit (x.toInt+y.toInt) with
 | true=>
   rw [hf] at h; simp only [if_true] at h
   generalize (x+y).toInt=s at h ⊢
   simp
   omega
 | false=>
   rw [hf] at h; simp only [Bool.false_eq_true,if_false] at h
   have hn:¬ (-9223372036854775808≤x.toInt+y.toInt∧x.toInt+y.toInt≤9223372036854775807):=by rw [←fit_iff,hf]; simp
   generalize (x+y).toInt=s at h ⊢
   simp
   omega
end Go.Proofs.YtflfdglnelbbiaaGreat.T
namespace Go.Proofs.YtflfdglnelbbiaaGreat.T
open Go Go.VM
def zig (n:Int):Int:=if n<0 then -1-2*n else 2*n
def zag (u:Int):Int:=if u % 2=1 then -1-u / 2 else u / 2
theorem zag_zig {n:Int}:zag (zig n)=n:=by unfold zag zig; split<;>split<;>omega
theorem u64_xor0 (x:BitVec 64):IntKind.u64.wrap ((BitVec.ofInt IntKind.u64.bits (x.toNat:Int) ^^^ BitVec.ofInt IntKind.u64.bits 0).toNat:Int)=(x.toNat:Int):=by
 show IntKind.u64.wrap ((BitVec.ofInt 64 (x.toNat:Int) ^^^ BitVec.ofInt 64 0).toNat:Int)=_
 rw [ofInt_toNat64]
 have:(BitVec.ofInt 64 0)=0#64:=rfl
 rw [this,BitVec.xor_zero,u64_self]
theorem u64_xor1 (x:BitVec 64):IntKind.u64.wrap ((BitVec.ofInt IntKind.u64.bits (x.toNat:Int) ^^^ BitVec.ofInt IntKind.u64.bits 18446744073709551615).toNat:Int)=18446744073709551615-(x.toNat:Int):=by
 show IntKind.u64.wrap ((BitVec.ofInt 64 (x.toNat:Int) ^^^ BitVec.ofInt 64 18446744073709551615).toNat:Int)=_
 rw [ofInt_toNat64]
 have:(BitVec.ofInt 64 18446744073709551615)=BitVec.allOnes 64:=by decide
 rw [this,BitVec.xor_allOnes,u64_self,BitVec.toNat_not]
 have:=x.isLt
 omega
theorem i64_xor0 (x:BitVec 64):IntKind.i64.wrap ((BitVec.ofInt IntKind.i64.bits x.toInt ^^^ BitVec.ofInt IntKind.i64.bits 0).toNat:Int)=x.toInt:=by
 show IntKind.i64.wrap ((BitVec.ofInt 64 x.toInt ^^^ BitVec.ofInt 64 0).toNat:Int)=_
 rw [ofInt_toInt64]
 have:(BitVec.ofInt 64 0)=0#64:=rfl
 rw [this,BitVec.xor_zero,i64_of_toNat]
theorem i64_xor1 (x:BitVec 64):IntKind.i64.wrap ((BitVec.ofInt IntKind.i64.bits x.toInt ^^^ BitVec.ofInt IntKind.i64.bits (-1)).toNat:Int) = -1-x.toInt:=by
 show IntKind.i64.wrap ((BitVec.ofInt 64 x.toInt ^^^ BitVec.ofInt 64 (-1)).toNat:Int)=_
 rw [ofInt_toInt64]
 have:(BitVec.ofInt 64 (-1))=BitVec.allOnes 64:=by decide
 rw [this,BitVec.xor_allOnes,i64_of_toNat,BitVec.toInt_not]
 have h:=toInt_range x
 have e:((2 ^ 64:Nat):Int)=18446744073709551616:=rfl
 have h1:=x.isLt
 rw [BitVec.toInt_eq_toNat_cond,Int.bmod_def,e]
 split<;>split<;>omega
theorem zig_bits (x:BitVec 64):EP (EE env) 90 [i64 x]=some (.int .u64 (zig x.toInt)):=by
 have hr:=toInt_range x
 refine Has.eq (aE ?_)
 refine a9 _ (u64_of_toInt x) ?_
 refine aa rfl ?_
 refine a9 _ (u64_shl x 1 (by decide)) ?_
 refine aa rfl ?_
 have hx:=x.isLt
 have ht:=BitVec.toInt_eq_toNat_cond x
 have hs:((x <<< 1).toNat:Int)=2*(x.toNat:Int) % 18446744073709551616:=by
  rw [BitVec.toNat_shiftLeft,Nat.shiftLeft_eq]; omega
 have hsh:x.toInt.fdiv (2 ^ (min (63:Int).toNat IntKind.i64.bits))=if x.toInt<0 then -1 else 0:=by
  have e:(2:Int) ^ (min (63:Int).toNat IntKind.i64.bits)=9223372036854775808:=rfl
  rw [e,Int.fdiv_eq_ediv_of_nonneg _ (by decide)]
  split<;>omega
 refine a9 _ hsh ?_
 by_cases h:x.toInt<0
 ·rw [if_pos h]
  refine a9 18446744073709551615 rfl ?_
  refine a9 _ (u64_xor1 _) ?_
  refine Has.intro (Has.intro ?_)
  show PV.int .u64 _=_
  unfold zig
  rw [if_pos h,hs]
  congr 1
  split at ht<;>omega
 ·rw [if_neg h]
  refine a9 0 rfl ?_
  refine a9 _ (u64_xor0 _) ?_
  refine Has.intro (Has.intro ?_)
  show PV.int .u64 _=_
  unfold zig
  rw [if_neg h,hs]
  congr 1
  split at ht<;>omega
theorem zig_ok {n:Int} (h:fit n=true):EP (EE env) 90 [.int .i64 n]=some (.int .u64 (zig n)):=by
 obtain ⟨x,rfl⟩:=i64_bits (fit_true h).1 (fit_true h).2
 exact zig_bits x
theorem u64_and1 (x:BitVec 64):IntKind.u64.wrap ((BitVec.ofInt IntKind.u64.bits (x.toNat:Int) &&& BitVec.ofInt IntKind.u64.bits 1).toNat:Int)=((x.toNat % 2:Nat):Int):=by
 have h:=u64_and x 1#64
 have e:((1#64:BitVec 64).toNat:Int)=1:=rfl
 rw [e] at h
 rw [h,BitVec.toNat_and]
 show ((x.toNat &&& 1:Nat):Int)=_
 rw [Nat.and_one_is_mod]
theorem zag_bits (x:BitVec 64):EP (EE env) 111 [u64 x]=some (.int .i64 (zag (x.toNat:Int))):=by
 have hx:=x.isLt
 refine Has.eq (aE ?_)
 refine aa rfl ?_
 refine a9 _ (u64_shr x 1 (by decide)) ?_
 have hs:((x >>> 1).toNat:Int)=(x.toNat:Int) / 2:=by
  rw [BitVec.toNat_ushiftRight,Nat.shiftRight_eq_div_pow]; omega
 have hn:(x >>> 1).toInt=(x.toNat:Int) / 2:=by
  rw [BitVec.toInt_eq_toNat_cond,if_pos (by omega),hs]
 refine a9 (x >>> 1).toInt (i64_of_toNat _) ?_
 refine a9 _ (u64_and1 x) ?_
 refine a9 ((x.toNat % 2:Nat):Int) (wrap_i64 (by omega) (by omega)) ?_
 by_cases h:x.toNat % 2=1
 ·rw [h]
  refine a9 (-1) rfl ?_
  refine a9 _ (i64_xor1 _) ?_
  refine Has.intro (Has.intro ?_)
  show PV.int .i64 _=_
  unfold zag
  rw [if_pos (by omega),hn]
 ·have h0:x.toNat % 2=0:=by omega
  rw [h0]
  refine a9 0 rfl ?_
  refine a9 _ (i64_xor0 _) ?_
  refine Has.intro (Has.intro ?_)
  show PV.int .i64 _=_
  unfold zag
  rw [if_neg (by omega),hn]
theorem zag_ok {u:Int} (h:0≤u) (h':u≤18446744073709551615):EP (EE env) 111 [.int .u64 u]=some (.int .i64 (zag u)):=by
 obtain ⟨x,rfl⟩:=u64_bits h h'
 exact zag_bits x
end Go.Proofs.YtflfdglnelbbiaaGreat.T
namespace Go.Proofs.YtflfdglnelbbiaaGreat.T
open Go Go.VM
def enc (u:Nat):List UInt8:=if u<128 then [UInt8.ofNat u] else UInt8.ofNat (u % 128+128)::enc (u / 128)
theorem enc_lo {u:Nat} (h:u<128):enc u=[UInt8.ofNat u]:=by rw [enc,if_pos h]
theorem enc_hi {u:Nat} (h:¬ u<128):enc u=UInt8.ofNat (u % 128+128)::enc (u / 128):=by rw [enc,if_neg h]
theorem enc_len:∀ (m u:Nat),u<128 ^ m→1≤m→(enc u).length≤m:=by
 intro m
 induction m with
 | zero=>intro u _ h; omega
 | succ m ih=>
   intro u hu _
   by_cases h:u<128
   ·rw [enc_lo h]; simp
   ·rw [enc_hi h,List.length_cons]
    rw [Nat.pow_succ] at hu
    have:u / 128<128 ^ m:=Nat.div_lt_of_lt_mul (by rw [Nat.mul_comm]; exact hu)
    have hm:1≤m:=by
     rcases Nat.eq_zero_or_pos m with e | e
     ·subst e; simp at hu; omega
     ·exact e
    have:=ih (u / 128) this hm
    omega
theorem enc_ten {u:Nat} (h:u<18446744073709551616):(enc u).length≤10:=enc_len 10 u (by have:(128:Nat) ^ 10=1180591620717411303424:=rfl; omega) (by decide)
theorem u8_low {u:Nat} (h:u<128):(UInt8.ofNat u).toNat=u:=by rw [UInt8.toNat_ofNat']; omega
theorem u8_wrap (n:Nat):IntKind.u8.wrap (n:Int)=((n % 256:Nat):Int):=by
 unfold IntKind.wrap; simp only [IntKind.bits,IntKind.signed,Bool.false_and]
 simp
theorem u8_or128:∀ a:Nat,a<256→IntKind.u8.wrap ((BitVec.ofInt IntKind.u8.bits (a:Int) ||| BitVec.ofInt IntKind.u8.bits 128).toNat:Int)=(((UInt8.ofNat (a % 128+128)).toNat:Nat):Int):=by decide +kernel
theorem shr7 (u:Nat):((u:Nat):Int).fdiv (2 ^ (min (7:Int).toNat IntKind.u64.bits))=((u / 128:Nat):Int):=by
 have e:(2:Int) ^ (min (7:Int).toNat IntKind.u64.bits)=128:=rfl
 rw [e,Int.fdiv_eq_ediv_of_nonneg _ (by decide)]; simp
theorem bc_app (a b:List UInt8):bc a++bc b=bc (a++b):=by simp [bc]
theorem bc_len (a:List UInt8):(bc a).length=a.length:=by simp [bc]
def Wrote (p:Nat) (bs:List UInt8) (H:Heap) (y:AV × Heap):Prop:=TP y.2 p bs∧Keep p H y.2
theorem TP.len {H:Heap} {p:Nat} {bs:List UInt8} (h:TP H p bs):p<H.length:=by
 obtain ⟨v,h1,_⟩:=h
 exact ap h1 cellOf_ne.1
set_option maxHeartbeats 1000000 in
theorem number_ok (p:Nat) (u:Nat) (hu:u<18446744073709551616) (bs:List UInt8) (hb:bs.length≤1000000) (H:Heap) (ht:TP H p bs) :
 Has (EE env (.fn 67) [.ptr p 0,.pv (.int .u64 (u:Int))] H) (Wrote p (bs++enc u) H):=by
 have hu10:=enc_ten hu
 refine aK (fn_has rfl ?_)
 refine aM [(0,.ptr p 0),(1,.pv (.int .u64 (u:Int)))] H (Has.intro ⟨rfl,⟨rfl,rfl,trivial⟩,rfl⟩) (fun r=>?_)
 refine aV (σ:=Nat × List UInt8 × Heap) (fun s=>[(0,.ptr p 0),(1,.pv (.int .u64 (s.1:Int)))]) (fun s=>s.2.2)
  (fun s=>s.1<128∧bs++enc u=s.2.1++[UInt8.ofNat s.1]∧TP s.2.2 p s.2.1∧Keep p H s.2.2) ?_ (fun ⟨w,cs,J⟩ ⟨hw,he,hT,hK⟩ r=>?_)
 ·refine aw ?_
  refine aC (σ:=Nat × List UInt8 × Heap) (fun s=>s.1) (fun s=>[(0,.ptr p 0),(1,.pv (.int .u64 (s.1:Int)))]) (fun s=>s.2.2)
   (fun s=>s.1<18446744073709551616∧bs++enc u=s.2.1++enc s.1∧TP s.2.2 p s.2.1∧Keep p H s.2.2∧s.2.1.length≤bs.length+10) (fun ⟨w,cs,J⟩ ⟨hw,he,hT,hK,hl⟩ r=>?_) (u,bs,H) ⟨hu,rfl,ht,Keep.refl p H,by simp⟩ ⟨rfl,rfl,trivial⟩ rfl
  dsimp only at hw he hT hK hl ⊢
  refine ah (fun hge=>?_) (fun hlt=>?_)
  ·have hge':¬ w<128:=by omega
   obtain ⟨v,hv1,hv2⟩:=hT
   have hv0:=hv2
   have hcl:cs.length<bs.length+10:=by
    have:=congrArg List.length he
    rw [List.length_append,List.length_append,enc_hi hge',List.length_cons] at this
    have:1≤(enc (w / 128)).length:=by rw [enc]; split<;>simp
    omega
   rcases hv2 with ⟨hn,hc,rfl,_⟩ | ⟨hn,hc,t,rfl,ht⟩
   all_goals
    refine a8 _ hv1 ?_
    first
     | refine ab rfl ?_
     | skip
    refine a9 _ (u8_wrap w) ?_
    refine a9 _ (u8_or128 _ (Nat.mod_lt _ (by decide))) ?_
    refine app_has (m:=1) (new:=bc [UInt8.ofNat (w % 256 % 128+128)]) hv0 rfl (by show (cs.length+1)*1≤140737488355328; omega) (fun v' H' hv' hf _=>?_)
    have f1:=Fr.obj hv0 hf hv1 cellOf_ne.1 cellOf_ne.2
    have hv0':=b9 hv' (cellOf v') f1 cellOf_ne.2
    rcases hv' with ⟨hn',_⟩ | ⟨hn',hc',t',rfl,ht'⟩
    ·omega
    refine a8 _ f1 ?_
    refine aa rfl ?_
    refine a9 _ (shr7 w) ?_
    have e1:w % 256 % 128=w % 128:=by omega
    rw [e1] at hv0' ⊢
    rw [bc_app] at hv0' ⊢
    refine Has.intro ⟨(w / 128,cs++[UInt8.ofNat (w % 128+128)],hset H' p (cellOf (.tsl t' (cs.length+1) (bc (cs++[UInt8.ofNat (w % 128+128)]))))),⟨by dsimp only; omega,?_,⟨_,ai _ (ap f1 cellOf_ne.1),?_⟩,?_,?_⟩,?_,⟨rfl,rfl,trivial⟩,rfl⟩
    ·dsimp only; rw [he,enc_hi hge',List.append_assoc]; rfl
    ·dsimp only; rw [List.length_append]; exact hv0'
    ·exact (hK.trans (Keep.of_fr hv0 hf p)).set _
    ·dsimp only; rw [List.length_append,List.length_singleton]; omega
    ·dsimp only; omega
  ·refine Has.intro ?_
   exact Has.intro ⟨rfl,(w,cs,J),⟨by omega,by rw [he,enc_lo (by omega)],hT,hK⟩,⟨rfl,rfl,trivial⟩,rfl⟩
 dsimp only at hw he hT hK ⊢
 rw [he]
 have hcl:cs.length≤bs.length+10:=by
  have:=congrArg List.length he
  rw [List.length_append,List.length_append] at this
  omega
 obtain ⟨v,hv1,hv2⟩:=hT
 have hv0:=hv2
 rcases hv2 with ⟨hn,hc,rfl,_⟩ | ⟨hn,hc,t,rfl,ht⟩
 all_goals
  refine a8 _ hv1 ?_
  first
   | refine ab rfl ?_
   | skip
  refine a9 (((UInt8.ofNat w).toNat:Nat):Int) ((u8_wrap w).trans (by rw [u8_low hw]; omega)) ?_
  refine app_has (m:=1) (new:=bc [UInt8.ofNat w]) hv0 rfl (by show (cs.length+1)*1≤140737488355328; omega) (fun v' H' hv' hf _=>?_)
  have f1:=Fr.obj hv0 hf hv1 cellOf_ne.1 cellOf_ne.2
  have hv0':=b9 hv' (cellOf v') f1 cellOf_ne.2
  rcases hv' with ⟨hn',_⟩ | ⟨hn',hc',t',rfl,ht'⟩
  ·omega
  refine a8 _ f1 ?_
  rw [bc_app] at hv0' ⊢
  refine Has.intro ⟨⟨.tsl t' (cs.length+1) (bc (cs++[UInt8.ofNat w])),(show hget (hset H' p (cellOf (.tsl t' (cs.length+1) (bc (cs++[UInt8.ofNat w]))))) p=_ from ai _ (ap f1 cellOf_ne.1)),?_⟩,(hK.trans (Keep.of_fr hv0 hf p)).set _⟩
  rw [List.length_append]; exact hv0'
end Go.Proofs.YtflfdglnelbbiaaGreat.T
namespace Go.Proofs.YtflfdglnelbbiaaGreat.T
open Go Go.VM
theorem enc_ne (u:Nat):enc u≠[]:=by rw [enc]; split<;>simp
def zn (n:Int):Nat:=(zig n).toNat
theorem fit_of {n:Int} (h0 : -9223372036854775808≤n) (h1:n≤9223372036854775807):fit n=true:=(fit_iff n).2 ⟨h0,h1⟩
theorem zn_lt {n:Int} (h0 : -9223372036854775808≤n) (h1:n≤9223372036854775807):zn n<18446744073709551616∧((zn n:Nat):Int)=zig n:=by
 unfold zn zig; split<;>omega
theorem signed_ok (p:Nat) (n:Int) (h0 : -9223372036854775808≤n) (h1:n≤9223372036854775807) (bs:List UInt8) (hb:bs.length≤1000000) (H:Heap) (ht:TP H p bs) :
 Has (EE env (.fn 69) [.ptr p 0,.pv (.int .i64 n)] H) (Wrote p (bs++enc (zn n)) H):=by
 obtain ⟨g1,g2⟩:=zn_lt h0 h1
 refine aK ?_
 refine aj (zig_ok (fit_of h0 h1)) ?_
 rw [←g2]
 refine am ((number_ok p (zn n) g1 bs hb H ht).mono fun y hy=>?_)
 exact forceK_def y.1 _▸Has.intro hy
theorem flag_ok (p:Nat) (b:Bool) (bs:List UInt8) (hb:bs.length≤1000000) (H:Heap) (ht:TP H p bs) :
 Has (EE env (.fn 70) [.ptr p 0,.pv (.bool b)] H) (Wrote p (bs++enc b.toNat) H):=by
 cases b with
 | true=>
   refine aK ?_
   refine am ((number_ok p 1 (by decide) bs hb H ht).mono fun y hy=>?_)
   rw [forceK_def]
   exact Has.intro hy
 | false=>
   refine aK ?_
   refine am ((number_ok p 0 (by decide) bs hb H ht).mono fun y hy=>?_)
   rw [forceK_def]
   exact Has.intro hy
theorem bytes_sv (l:List UInt8):bytesCells ⟨l.toArray⟩=bc l:=by
 unfold bytesCells bc; simp
theorem text_ok (p:Nat) (l:List UInt8) (hl:l.length≤1000000) (bs:List UInt8) (hb:bs.length≤1000000) (H:Heap) (ht:TP H p bs) :
 Has (EE env (.fn 68) [.ptr p 0,.pv (sv l)] H) (Wrote p (bs++enc l.length++l) H):=by
 refine aK (fn_has rfl ?_)
 have hsz:((⟨l.toArray⟩:ByteArray).size:Int)=(l.length:Int):=by rw [ay]
 refine aV (σ:=Heap) (fun _=>[(0,.ptr p 0),(1,.pv (sv l))]) (fun H=>H) (fun H1=>TP H1 p (bs++enc l.length)∧Keep p H H1) ?_ (fun J ⟨hT,hK⟩ r=>?_)
 ·refine a9 ((l.length:Nat):Int) (by rw [hsz,aL]; omega) ?_
  refine am ((number_ok p l.length (by omega) bs hb H ht).mono fun y hy=>?_)
  rw [forceK_def]
  exact Has.intro ⟨rfl,y.2,hy,⟨rfl,rfl,trivial⟩,rfl⟩
 rcases hT.out with ⟨_,h⟩ | ⟨_,t,hv1,ht1⟩
 ·exact absurd h (by simp [enc_ne])
 have hle:=enc_ten (u:=l.length) (by omega)
 have hv0:AppV J (.tsl t (bs++enc l.length).length (bc (bs++enc l.length))) .nil 1 (bs++enc l.length).length (bc (bs++enc l.length)):=
  .inr ⟨by rw [List.length_append]; have:=List.length_pos_iff.2 (enc_ne l.length); omega,by rw [bc_len,Nat.mul_one],t,rfl,ht1⟩
 refine a8 _ hv1 ?_
 refine app_cells (x:=.pv (sv l)) (m:=l.length) (new:=bc l) hv0 (by show some (ByteArray.size _)=_; rw [ay]) (fun G=>by show G (bytesCells _)=_; rw [bytes_sv]) (by rw [bc_len,Nat.mul_one]) (by rw [List.length_append]; show _*1≤140737488355328; omega) (fun v' H' hv' hf _=>?_)
 have f1:=Fr.obj hv0 hf hv1 ((by intro h; cases h)) ((fun _ _ h=>by cases h))
 have hv0':=b9 hv' (cellOf v') f1 ((fun _ _ h=>by cases h))
 rw [bc_app] at hv' hv0'
 rcases hv' with ⟨hn',_⟩ | ⟨hn',hc',t',rfl,ht'⟩
 ·have:=List.length_pos_iff.2 (enc_ne l.length)
  rw [List.length_append] at hn'; omega
 refine a8 _ f1 ?_
 refine Has.intro ⟨⟨_,(show hget (hset H' p (cellOf (.tsl t' ((bs++enc l.length).length+l.length) (bc (bs++enc l.length++l))))) p=_ from ai _ (ap f1 ((by intro h; cases h)))),?_⟩,(hK.trans (Keep.of_fr hv0 hf p)).set _⟩
 rw [show (bs++enc l.length++l).length=(bs++enc l.length).length+l.length from List.length_append]
 exact hv0'
theorem clone_ok (x:Ext) (l:List UInt8) (hx:(x = .nil∧l=[])∨x = .nn∨x = .nnx) (hl:l.length≤1000000):∃ e,EP (EE env) 37 [.sl x l.length (bc l)]=some (.sl e l.length (bc l))∧((e = .nil∧l=[])∨e = .nn∨e = .nnx):=by
 cases l with
 | nil=>
   rcases hx with ⟨rfl,_⟩ | rfl | rfl
   ·exact ⟨.nil,Has.eq (aE (Has.intro (Has.intro rfl))),.inl ⟨rfl,rfl⟩⟩
   ·refine ⟨.nnx,Has.eq (aE ?_),.inr (.inr rfl)⟩
    refine app_none ?_
    exact Has.intro (Has.intro rfl)
   ·refine ⟨.nnx,Has.eq (aE ?_),.inr (.inr rfl)⟩
    refine app_none ?_
    exact Has.intro (Has.intro rfl)
 | cons a l=>
   refine ⟨.nn,?_,.inr (.inl rfl)⟩
   rcases hx with ⟨_,h⟩ | rfl | rfl
   ·cases h
   all_goals
    refine Has.eq (aE ?_)
    refine app_plain rfl rfl (by rw [bc_len,Nat.mul_one]) (by simp) (by show (0+(a::l).length)*1≤140737488355328; omega) ?_
    refine Has.intro (Has.intro ?_)
    show PV.sl .nn (0+(a::l).length) ([]++bc (a::l))=_
    rw [Nat.zero_add]; rfl
theorem bytes_ok (p:Nat) (bs:List UInt8) (hb:bs.length≤1000000) (H:Heap) (ht:TP H p bs):∃ e,EE env (.fn 72) [.ptr p 0] H=some (.pv (.sl e bs.length (bc bs)),H)∧((e = .nil∧bs=[])∨e = .nn∨e = .nnx):=by
 rcases ht.out with ⟨h1,rfl⟩ | ⟨hne,t,h1,ht⟩
 ·obtain ⟨e,he,hx⟩:=clone_ok .nil [] (.inl ⟨rfl,rfl⟩) (by simp)
  refine ⟨e,?_,hx⟩
  refine Has.eq (aK ?_)
  refine a8 _ h1 ?_
  refine ab rfl ?_
  refine aj he ?_
  exact Has.intro rfl
 ·obtain ⟨e,he,hx⟩:=clone_ok .nn bs (.inr (.inl rfl)) hb
  refine ⟨e,?_,hx⟩
  refine Has.eq (aK ?_)
  refine a8 _ h1 ?_
  refine aj he ?_
  exact Has.intro rfl
theorem rem128 (u:Nat):((u:Nat):Int).tmod 128=((u % 128:Nat):Int):=rfl
theorem quo128 {u:Nat} (hu:u<18446744073709551616):IntKind.u64.wrap (((u:Nat):Int).tdiv 128)=((u / 128:Nat):Int):=by
 have:((u:Nat):Int).tdiv 128=((u / 128:Nat):Int):=rfl
 rw [this,aL]; omega
theorem u8_128 {u:Nat}:IntKind.u8.wrap (((u % 128:Nat):Int)+128)=(((UInt8.ofNat (u % 128+128)).toNat:Nat):Int):=by
 have:((u % 128:Nat):Int)+128=((u % 128+128:Nat):Int):=by omega
 rw [this,u8_wrap,UInt8.toNat_ofNat']
theorem str_one (b:UInt8):strOfCells [.int .u8 ((b.toNat:Nat):Int)]=some [b]:=bc_str [b]
set_option maxHeartbeats 1000000 in
theorem rnumber_ok (u:Nat) (hu:u<18446744073709551616):EP (EE env) 50 [.int .u64 (u:Int)]=some (sv (enc u)):=by
 have hu10:=enc_ten hu
 refine Has.eq (aE (fn_has rfl ?_))
 refine aM [(0,.pv (.int .u64 (u:Int)))] [] (Has.intro ⟨rfl,⟨rfl,trivial⟩,rfl⟩) (fun r=>?_)
 refine aM [(0,.pv (.int .u64 (u:Int))),(3,.pv (sv []))] [] (Has.intro ⟨rfl,⟨rfl,rfl,trivial⟩,rfl⟩) (fun r=>?_)
 refine aV (σ:=Nat × List UInt8) (fun s=>[(0,.pv (.int .u64 (s.1:Int))),(3,.pv (sv s.2))]) (fun _=>[])
  (fun s=>s.1<128∧enc u=s.2++[UInt8.ofNat s.1]) ?_ (fun ⟨w,cs⟩ ⟨hw,he⟩ r=>?_)
 ·refine aw ?_
  refine aC (σ:=Nat × List UInt8) (fun s=>s.1) (fun s=>[(0,.pv (.int .u64 (s.1:Int))),(3,.pv (sv s.2))]) (fun _=>[])
   (fun s=>s.1<18446744073709551616∧enc u=s.2++enc s.1) (fun ⟨w,cs⟩ ⟨hw,he⟩ r=>?_) (u,[]) ⟨hu,rfl⟩ ⟨rfl,rfl,trivial⟩ rfl
  dsimp only at hw he ⊢
  have hcl:cs.length≤10:=by
   have:=congrArg List.length he
   rw [List.length_append] at this
   omega
  refine ah (fun hge=>?_) (fun hlt=>?_)
  ·have hge':¬ w<128:=by omega
   refine aa rfl ?_
   refine a9 _ (rem128 w) ?_
   refine a9 _ ((aL _).trans (by omega:_=((w % 128:Nat):Int)+128)) ?_
   refine a9 _ (u8_128 (u:=w)) ?_
   refine aa rfl ?_
   refine bj (str_one _) ?_
   refine aa (by rw [decide_eq_true_iff,ay,ay]; simp; omega) ?_
   refine a9 _ (sv_app cs [UInt8.ofNat (w % 128+128)]) ?_
   refine aa rfl ?_
   refine a9 _ (quo128 hw) ?_
   refine Has.intro ⟨(w / 128,cs++[UInt8.ofNat (w % 128+128)]),⟨by dsimp only; omega,?_⟩,by dsimp only; omega,⟨rfl,rfl,trivial⟩,rfl⟩
   dsimp only; rw [he,enc_hi hge',List.append_assoc]; rfl
  ·refine Has.intro ?_
   exact Has.intro ⟨rfl,(w,cs),⟨by omega,by rw [he,enc_lo (by omega)]⟩,⟨rfl,rfl,trivial⟩,rfl⟩
 dsimp only at hw he ⊢
 have hcl:cs.length≤10:=by
  have:=congrArg List.length he
  rw [List.length_append] at this
  omega
 refine a9 (((UInt8.ofNat w).toNat:Nat):Int) ((u8_wrap w).trans (by rw [u8_low hw]; omega)) ?_
 refine aa rfl ?_
 refine bj (str_one _) ?_
 refine aa (by rw [decide_eq_true_iff,ay,ay]; simp; omega) ?_
 refine a9 _ (sv_app cs [UInt8.ofNat w]) ?_
 (refine Has.intro (Has.intro ?_))
 rw [he]; rfl
theorem rsigned_ok (n:Int) (h0 : -9223372036854775808≤n) (h1:n≤9223372036854775807):EP (EE env) 52 [.int .i64 n]=some (sv (enc (zn n))):=by
 obtain ⟨g1,g2⟩:=zn_lt h0 h1
 have hr:=rnumber_ok (zn n) g1
 rw [g2] at hr
 refine Has.eq (aE ?_)
 refine ah (fun h=>?_) (fun h=>?_)
 ·have e:zig n = -1-2*n:=if_pos h
  rw [e] at hr
  refine a9 _ (wrap_i64 (by omega) (by omega)) ?_
  refine a9 (-(n+1)) ((wrap_i64 (by omega) (by omega)).trans (by omega)) ?_
  refine a9 (-(n+1)) ((aL _).trans (by omega)) ?_
  refine a9 (-(n+1)*2) ((aL _).trans (by omega)) ?_
  refine a9 (-1-2*n) ((aL _).trans (by omega)) ?_
  refine aj hr ?_
  (refine Has.intro (Has.intro ?_))
  rfl
 ·have e:zig n=2*n:=if_neg h
  rw [e] at hr
  refine a9 n ((aL _).trans (by omega)) ?_
  refine a9 (2*n) ((aL _).trans (by omega)) ?_
  refine aj hr ?_
  (refine Has.intro (Has.intro ?_))
  rfl
theorem rtext_ok (l:List UInt8) (hl:l.length≤1000000):EP (EE env) 51 [sv l]=some (sv (enc l.length++l)):=by
 have hle:=enc_ten (u:=l.length) (by omega)
 refine Has.eq (aE ?_)
 refine a9 ((l.length:Nat):Int) (by rw [ay,aL]; omega) ?_
 refine aj (rnumber_ok l.length (by omega)) ?_
 refine aa (by rw [decide_eq_true_iff,ay,ay]; omega) ?_
 refine a9 _ (sv_app _ _) ?_
 (refine Has.intro (Has.intro ?_))
 rfl
theorem rflag_ok (b:Bool):EP (EE env) 53 [.bool b]=some (sv (enc b.toNat)):=by
 cases b with
 | true=>
   refine Has.eq (aE ?_)
   (refine Has.intro (Has.intro ?_))
   rw [enc_lo (by decide)]; rfl
 | false=>
   refine Has.eq (aE ?_)
   (refine Has.intro (Has.intro ?_))
   rw [enc_lo (by decide)]; rfl
end Go.Proofs.YtflfdglnelbbiaaGreat.T
