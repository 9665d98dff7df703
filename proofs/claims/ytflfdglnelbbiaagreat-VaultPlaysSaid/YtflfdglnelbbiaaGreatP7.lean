/-
  Part 7 of the functions and the law.
  What is read: numbers, vectors, containers.
  A container that comes.
  An entry that comes.
  A state that comes: the lists of its parts.
  A state that comes.
  What is written is read, and what is read is written.
  And back; states that are read are right ones, and the same.
-/
import Derived.Test.YtflfdglnelbbiaaGreatP6
set_option linter.all false
set_option linter.unusedVariables false
set_option linter.unusedSimpArgs false
set_option linter.unusedSectionVars false
namespace Go.Proofs.YtflfdglnelbbiaaGreat
open Go Go.VM
abbrev RS:=List UInt8 × Int
def gN (m:Nat) (r:RS):Nat × RS:=T.rNum r.1 r.2 m
def gT (m:Int) (r:RS):List UInt8 × RS:=T.rTxt r.1 r.2 m
def gS (r:RS):Int × RS:=T.rSig r.1 r.2 (-1000) 1000
def gF (r:RS):Bool × RS:=T.rFlg r.1 r.2
def gV (r:RS):Vc × RS:=
 let a:=gN 1099511627776 r
 let b:=gN 1125899906842624 a.2
 let c:=gN 1125899906842624 b.2
 (⟨a.1,b.1,c.1⟩,c.2)
def gFs (r:RS):(Bool × Bool × Bool) × RS:=
 let a:=gF r
 let b:=gF a.2
 let c:=gF b.2
 ((a.1,b.1,c.1),c.2)
def gC (r:RS):(Ct × Ct) × RS:=
 let n:=gT 16 r
 let f:=gFs n.2
 let a:=gV f.2
 let b:=gV a.2
 let c:=gV b.2
 let d:=gV c.2
 ((⟨n.1,a.1,b.1,f.1.1,f.1.2.1,f.1.2.2⟩,⟨n.1,c.1,d.1,f.1.1,f.1.2.1,f.1.2.2⟩),d.2)
theorem gN_short (m:Nat) (r:RS):(gN m r).2.1.length≤r.1.length:=T.rNum_short r.1 r.2 m
theorem gT_short (m:Int) (r:RS):(gT m r).2.1.length≤r.1.length:=(T.rTxt_short r.1 r.2 m).2
theorem gS_short (r:RS):(gS r).2.1.length≤r.1.length:=T.rSig_short r.1 r.2 _ _
theorem gF_short (r:RS):(gF r).2.1.length≤r.1.length:=T.rFlg_short r.1 r.2
theorem gV_short (r:RS):(gV r).2.1.length≤r.1.length:=by
 have h1:=gN_short 1099511627776 r
 have h2:=gN_short 1125899906842624 (gN 1099511627776 r).2
 have h3:=gN_short 1125899906842624 (gN 1125899906842624 (gN 1099511627776 r).2).2
 show (gN 1125899906842624 (gN 1125899906842624 (gN 1099511627776 r).2).2).2.1.length≤_
 omega
theorem gFs_short (r:RS):(gFs r).2.1.length≤r.1.length:=by
 have h1:=gF_short r
 have h2:=gF_short (gF r).2
 have h3:=gF_short (gF (gF r).2).2
 show (gF (gF (gF r).2).2).2.1.length≤_
 omega
theorem gC_short (r:RS):(gC r).2.1.length≤r.1.length:=by
 have h1:=gT_short 16 r
 have h2:=gFs_short (gT 16 r).2
 have h3:=gV_short (gFs (gT 16 r).2).2
 have h4:=gV_short (gV (gFs (gT 16 r).2).2).2
 have h5:=gV_short (gV (gV (gFs (gT 16 r).2).2).2).2
 have h6:=gV_short (gV (gV (gV (gFs (gT 16 r).2).2).2).2).2
 show (gV (gV (gV (gV (gFs (gT 16 r).2).2).2).2).2).2.1.length≤_
 omega
theorem gN_le (m:Nat) (r:RS):(gN m r).1≤m:=by
 unfold gN T.rNum
 split
 ·exact Nat.zero_le _
 ·split
  ·exact Nat.zero_le _
  ·split
   ·exact Nat.zero_le _
   ·dsimp only; omega
def RD (H:Heap) (p:Nat) (r:RS):Prop:=(∃ x,hget H p=T.rdO x r.1 r.2)∧r.1.length≤1000000
def KR (p:Nat) (H H':Heap):Prop:=H.length≤H'.length ∧ ∀ i,i≠p→i<H.length→hget H' i=hget H i
theorem KR.refl (p:Nat) (H:Heap):KR p H H:=⟨Nat.le_refl _,fun _ _ _=>rfl⟩
theorem KR.trans {p:Nat} {A B C:Heap} (h1:KR p A B) (h2:KR p B C):KR p A C:=
 ⟨Nat.le_trans h1.1 h2.1,fun i hi hl=>(h2.2 i hi (Nat.lt_of_lt_of_le hl h1.1)).trans (h1.2 i hi hl)⟩
theorem KR.app (p:Nat) (H L:Heap):KR p H (H++L):=⟨by simp,fun _ _ hl=>aA L hl⟩
theorem KR.set {p:Nat} {A B:Heap} (h:KR p A B) {i:Nat} (o:HObj) (hi:A.length≤i):KR p A (hset B i o):=
 ⟨by rw [br]; exact h.1,fun j hj hl=>(an _ _ (by omega)).trans (h.2 j hj hl)⟩
theorem KR.obj {p:Nat} {A B:Heap} (h:KR p A B) {i:Nat} {o:HObj} (hi:i≠p) (ho:hget A i=o) (hd:o ≠ .dead):hget B i=o:=(h.2 i hi (ap ho hd)).trans ho
def Rdr (p:Nat) (v:AV) (r:RS) (H:Heap) (y:AV × Heap):Prop:=y.1=v∧RD y.2 p r∧KR p H y.2
theorem RD.lt {H:Heap} {p:Nat} {r:RS} (h:RD H p r):p<H.length:=by
 obtain ⟨⟨x,h⟩,_⟩:=h
 exact ap h ((by intro h; cases h))
theorem RD.app {H:Heap} {p:Nat} {r:RS} (h:RD H p r) (L:Heap):RD (H++L) p r:=by
 have hl:=h.lt
 obtain ⟨⟨x,h⟩,hb⟩:=h
 exact ⟨⟨x,(aA L hl).trans h⟩,hb⟩
theorem RD.set {H:Heap} {p:Nat} {r:RS} (h:RD H p r) {i:Nat} (o:HObj) (hi:i≠p):RD (hset H i o) p r:=by
 obtain ⟨⟨x,h⟩,hb⟩:=h
 exact ⟨⟨x,(an _ _ (Ne.symm hi)).trans h⟩,hb⟩
theorem left_rdr {p:Nat} {v:PV} {bs:List UInt8} {e:Int} {H:Heap} {y:AV × Heap} (hp:p<H.length) (hb:bs.length≤1000000) (h:T.Left p v bs e H y):Rdr p (.pv v) (bs,e) H y:=by
 obtain ⟨h1,x,h2⟩:=h
 refine ⟨h1,⟨⟨x,?_⟩,hb⟩,?_,fun i hi hl=>?_⟩
 ·rw [h2]; exact ai _ hp
 ·rw [h2,br]; exact Nat.le_refl _
 ·rw [h2]; exact an _ _ hi
theorem rnum_rd {p:Nat} {r:RS} {H:Heap} (h:RD H p r) (m:Nat):Has (EE env (.fn 95) [.ptr p 0,.pv (.int .u64 (m:Int))] H) (Rdr p (.pv (.int .u64 ((gN m r).1:Nat))) (gN m r).2 H):=by
 have hl:=h.lt
 obtain ⟨⟨x,h⟩,hb⟩:=h
 exact (T.rnum_ok p x r.1 hb r.2 H h m).mono fun y hy=>left_rdr hl (Nat.le_trans (gN_short m r) hb) hy
theorem rtxt_rd {p:Nat} {r:RS} {H:Heap} (h:RD H p r):Has (EE env (.fn 80) [.ptr p 0,.pv (.int .i64 16)] H) (Rdr p (.pv (sv (gT 16 r).1)) (gT 16 r).2 H):=by
 have hl:=h.lt
 obtain ⟨⟨x,h⟩,hb⟩:=h
 exact (T.rtxt_ok p x r.1 hb r.2 H h 16 (by decide)).mono fun y hy=>left_rdr hl (Nat.le_trans (gT_short 16 r) hb) hy
theorem rsig_rd {p:Nat} {r:RS} {H:Heap} (h:RD H p r):Has (EE env (.fn 96) [.ptr p 0,.pv (.int .i64 (-1000)),.pv (.int .i64 1000)] H) (Rdr p (.pv (.int .i64 (gS r).1)) (gS r).2 H):=by
 have hl:=h.lt
 obtain ⟨⟨x,h⟩,hb⟩:=h
 exact (T.rsig_ok p x r.1 hb r.2 H h (-1000) 1000).mono fun y hy=>left_rdr hl (Nat.le_trans (gS_short r) hb) hy
theorem rflg_rd {p:Nat} {r:RS} {H:Heap} (h:RD H p r):Has (EE env (.fn 112) [.ptr p 0] H) (Rdr p (.pv (.bool (gF r).1)) (gF r).2 H):=by
 have hl:=h.lt
 obtain ⟨⟨x,h⟩,hb⟩:=h
 exact (T.rflg_ok p x r.1 hb r.2 H h).mono fun y hy=>left_rdr hl (Nat.le_trans (gF_short r) hb) hy
theorem num_rd {p:Nat} {r:RS} {H:Heap} (h:RD H p r) (m:Nat) (hm:m≤1125899906842624):Has (EE env (.fn 78) [.ptr p 0,.pv (.int .i64 (m:Int))] H) (Rdr p (.pv (.int .i64 ((gN m r).1:Nat))) (gN m r).2 H):=by
 refine aK ?_
 refine a9 _ (u64k (by omega)) ?_
 refine am ((rnum_rd h m).mono fun y hy=>?_)
 obtain ⟨v,G⟩:=y
 obtain ⟨rfl,h2,h3⟩:=hy
 have:=gN_le m r
 refine a9 _ (wrap_i64 (by omega) (by omega)) ?_
 exact Has.intro ⟨rfl,h2,h3⟩
set_option maxHeartbeats 1000000 in
theorem vec_rd {p:Nat} {r:RS} {H:Heap} (h:RD H p r):Has (EE env (.fn 113) [.ptr p 0] H) (Rdr p (.pv (.agg (vc (gV r).1))) (gV r).2 H):=by
 have hl:=h.lt
 refine aK ?_
 refine am ((num_rd (h.app _) 1099511627776 (by decide)).mono fun z hz=>?_)
 (obtain ⟨v,G⟩:=z; obtain ⟨rfl,hr,hk⟩:=hz; dsimp only at hr hk ⊢)
 have k2:=hk.obj (i:=H.length) (by omega) (ak H _) ((by intro h; cases h))
 have K:=(KR.app p H _).trans hk
 refine am ((num_rd hr 1125899906842624 (by decide)).mono fun z hz=>?_)
 (obtain ⟨v,G⟩:=z; obtain ⟨rfl,hr,hk⟩:=hz; dsimp only at hr hk ⊢)
 have k2:=hk.obj (i:=H.length) (by omega) k2 ((by intro h; cases h))
 have K:=K.trans hk
 refine am ((num_rd hr 1125899906842624 (by decide)).mono fun z hz=>?_)
 (obtain ⟨v,G⟩:=z; obtain ⟨rfl,hr,hk⟩:=hz; dsimp only at hr hk ⊢)
 have k2:=hk.obj (i:=H.length) (by omega) k2 ((by intro h; cases h))
 have K:=K.trans hk
 refine a8 _ k2 ?_
 refine aa rfl ?_
 refine a9 (vc (gV r).1) rfl ?_
 refine a8 _ (ai _ (ap k2 ((by intro h; cases h)))) ?_
 refine ae (v:=vc (gV r).1) rfl (of_decide_eq_true rfl) ?_
 exact Has.intro ⟨rfl,hr.set _ (by omega),K.set _ (Nat.le_refl _)⟩
end Go.Proofs.YtflfdglnelbbiaaGreat
namespace Go.Proofs.YtflfdglnelbbiaaGreat
open Go Go.VM
def setF (c:Ct) (i:Nat) (b:Bool):Ct:=match i with
 | 0=>{ c with r0:=b }
 | 1=>{ c with r1:=b }
 | _=>{ c with r2:=b }
def flC (c:Ct) (r:RS):Nat→Ct × RS
 | 0=>(c,r)
 | i+1=>(setF (flC c r i).1 i (gF (flC c r i).2).1,(gF (flC c r i).2).2)
def c0 (n:List UInt8):Ct:=⟨n,v0,v0,false,false,false⟩
theorem flC_three (n:List UInt8) (r:RS):flC (c0 n) r 3=(⟨n,v0,v0,(gFs r).1.1,(gFs r).1.2.1,(gFs r).1.2.2⟩,(gFs r).2):=rfl
theorem set_ct (c:Ct) {i:Nat} (b:Bool) (h:i<3):(ct c).set (addO (addO 0 7) (mulE ((i:Nat):Int).toNat 1)) (.bool b)=ct (setF c i b):=by
 have hidx:addO (addO 0 7) (mulE ((i:Nat):Int).toNat 1)=7+i:=by rw [addO_eq,addO_eq,aG,Nat.mul_one]; rfl
 rw [hidx]
 have h3:i=0∨i=1∨i=2:=by omega
 rcases h3 with rfl | rfl | rfl<;>rfl
theorem idx_ct {i:Nat} (h:i<3):Nat.blt (addO (addO 0 7) (mulE ((i:Nat):Int).toNat 1)) 10=true:=by
 have hidx:addO (addO 0 7) (mulE ((i:Nat):Int).toNat 1)=7+i:=by rw [addO_eq,addO_eq,aG,Nat.mul_one]; rfl
 rw [hidx]
 have h3:i=0∨i=1∨i=2:=by omega
 rcases h3 with rfl | rfl | rfl<;>rfl
def zc:List PV:=ct (c0 [])
set_option maxHeartbeats 4000000 in
theorem ctr_rd {p:Nat} {r:RS} {H:Heap} (h:RD H p r):Has (EE env (.fn 97) [.ptr p 0] H) (Rdr p (.pv (.tup [.agg (ct (gC r).1.1),.agg (ct (gC r).1.2)])) (gC r).2 H):=by
 have hl:=h.lt
 refine aK ?_
 refine am ((rtxt_rd ((h.app [HObj.pcells zc]).app [HObj.pcells zc])).mono fun z hz=>?_)
 ((try clear hr); (try clear hk); obtain ⟨v,G⟩:=z; obtain ⟨rfl,hr,hk⟩:=hz; dsimp only at hr hk ⊢)
 obtain ⟨q2,hq2⟩:∃ q,q=H.length:=⟨_,rfl⟩
 obtain ⟨q3,hq3⟩:∃ q,q=(H++[HObj.pcells zc]).length:=⟨_,rfl⟩
 have hq3':q3=q2+1:=by rw [hq3,hq2]; simp
 have k2:hget G q2 = .pcells zc:=hk.obj (by omega) ((aA _ (by rw [hq2]; simp)).trans (by rw [hq2]; exact ak H _)) ((by intro h; cases h))
 have k3:hget G q3 = .pcells zc:=hk.obj (by omega) (by rw [hq3]; exact ak _ _) ((by intro h; cases h))
 have K:=((KR.app p H _).trans (KR.app p _ _)).trans hk
 rw [←hq2,show List.length (H++[HObj.pcells [PV.str { data := #[] },PV.int IntKind.i64 0,PV.int IntKind.i64 0,PV.int IntKind.i64 0,PV.int IntKind.i64 0,PV.int IntKind.i64 0,PV.int IntKind.i64 0,PV.bool false,PV.bool false,PV.bool false]])=q3 from hq3.symm]
 refine af ?_
 refine aa rfl ?_
 refine a9 (ct (c0 (gT 16 r).1)) rfl ?_
 rw [aH]
 obtain ⟨q4,hq4⟩:∃ q,q=G.length:=⟨_,rfl⟩
 have hpG:q3<q4:=by rw [hq4]; exact ap k3 ((by intro h; cases h))
 replace hr:=hr.app [.pcells (ct (c0 (gT 16 r).1))]
 have k4:hget (G++[.pcells (ct (c0 (gT 16 r).1))]) q4 = .pcells (ct (c0 (gT 16 r).1)):=by rw [hq4]; exact ak G _
 replace k2:=(aA [.pcells (ct (c0 (gT 16 r).1))] (ap k2 ((by intro h; cases h)))).trans k2
 replace k3:=(aA [.pcells (ct (c0 (gT 16 r).1))] (ap k3 ((by intro h; cases h)))).trans k3
 replace K:=K.trans (KR.app p _ [.pcells (ct (c0 (gT 16 r).1))])
 rw [←hq4]
 generalize G++[.pcells (ct (c0 (gT 16 r).1))]=G at hr k2 k3 k4 K ⊢
 clear hk h
 refine aw ?_
 refine aC (σ:=Nat × Heap) (fun t=>3-t.1) (fun t=>[(0,.ptr p 0),(2,.ptr q2 0),(3,.ptr q3 0),(4,.ptr q4 0),(10,.pv (.int .i64 t.1))]) (fun t=>t.2)
  (fun t=>t.1≤3∧RD t.2 p (flC (c0 (gT 16 r).1) (gT 16 r).2 t.1).2∧hget t.2 q2 = .pcells zc∧hget t.2 q3 = .pcells zc∧hget t.2 q4 = .pcells (ct (flC (c0 (gT 16 r).1) (gT 16 r).2 t.1).1)∧KR p H t.2) (fun ⟨i,G⟩ ⟨hi,hr,k2,k3,k4,K⟩ r'=>?_) (0,G) ⟨Nat.zero_le _,hr,k2,k3,k4,K⟩ ⟨rfl,rfl,rfl,rfl,rfl,trivial⟩ rfl
 dsimp only at hi hr k2 k3 k4 K ⊢
 refine ah (fun hc=>?_) (fun hc=>?_)
 ·refine am ((rflg_rd hr).mono fun z hz=>?_)
  ((try clear hr); (try clear hk); obtain ⟨v,G⟩:=z; obtain ⟨rfl,hr,hk⟩:=hz; dsimp only at hr hk ⊢)
  replace k2:=hk.obj (by omega) k2 ((by intro h; cases h))
  replace k3:=hk.obj (by omega) k3 ((by intro h; cases h))
  replace k4:=hk.obj (by omega) k4 ((by intro h; cases h))
  replace K:=K.trans hk
  have hq4G:=ap k4 ((by intro h; cases h))
  refine aa (by (first | rfl | (simp; done) | (simp; omega))) ?_
  refine a8 _ k4 ?_
  refine aa (idx_ct (by omega)) ?_
  refine a9 _ (set_ct _ _ (by omega)) ?_
  refine a9 _ (aq (by omega)) ?_
  exact Has.intro ⟨(i+1,_),⟨by omega,hr.set _ (by omega),(an _ _ (by omega)).trans k2,(an _ _ (by omega)).trans k3,ai _ hq4G,K.set _ (by omega)⟩,by dsimp only; omega,⟨rfl,rfl,rfl,rfl,rfl,trivial⟩,rfl⟩
 have hi3:i=3:=by omega
 subst hi3
 rw [flC_three] at hr k4
 dsimp only at hr k4
 refine Has.intro ?_
 refine a8 _ k4 ?_
 refine ae (v:=ct ⟨(gT 16 r).1,v0,v0,(gFs (gT 16 r).2).1.1,(gFs (gT 16 r).2).1.2.1,(gFs (gT 16 r).2).1.2.2⟩) rfl (of_decide_eq_true rfl) ?_
 refine af ?_
 refine aa rfl ?_
 refine a9 (ct ⟨(gT 16 r).1,v0,v0,(gFs (gT 16 r).2).1.1,(gFs (gT 16 r).2).1.2.1,(gFs (gT 16 r).2).1.2.2⟩) rfl ?_
 rw [aH]
 generalize hn:(gT 16 r).1=n at *
 generalize hfr:(gFs (gT 16 r).2)=fr at *
 obtain ⟨⟨f0,f1,f2⟩,r5⟩:=fr
 dsimp only at hr k4 ⊢
 obtain ⟨q6,hq6⟩:∃ q,q=G.length:=⟨_,rfl⟩
 have hp6:q4<q6:=by rw [hq6]; exact ap k4 ((by intro h; cases h))
 replace hr:=hr.app [.pcells (ct ⟨n,v0,v0,f0,f1,f2⟩)]
 have k6:hget (G++[.pcells (ct ⟨n,v0,v0,f0,f1,f2⟩)]) q6 = .pcells (ct ⟨n,v0,v0,f0,f1,f2⟩):=by rw [hq6]; exact ak G _
 replace k2:=(aA [.pcells (ct ⟨n,v0,v0,f0,f1,f2⟩)] (ap k2 ((by intro h; cases h)))).trans k2
 replace k3:=(aA [.pcells (ct ⟨n,v0,v0,f0,f1,f2⟩)] (ap k3 ((by intro h; cases h)))).trans k3
 replace k4:=(aA [.pcells (ct ⟨n,v0,v0,f0,f1,f2⟩)] (ap k4 ((by intro h; cases h)))).trans k4
 replace K:=K.trans (KR.app p _ [.pcells (ct ⟨n,v0,v0,f0,f1,f2⟩)])
 rw [←hq6]
 generalize G++[.pcells (ct ⟨n,v0,v0,f0,f1,f2⟩)]=G at hr k2 k3 k4 k6 K ⊢
 refine am ((vec_rd hr).mono fun z hz=>?_)
 ((try clear hr); (try clear hk); obtain ⟨v,G⟩:=z; obtain ⟨rfl,hr,hk⟩:=hz; dsimp only at hr hk ⊢)
 replace k2:=hk.obj (by omega) k2 ((by intro h; cases h))
 replace k3:=hk.obj (by omega) k3 ((by intro h; cases h))
 replace k4:=hk.obj (by omega) k4 ((by intro h; cases h))
 replace k6:=hk.obj (by omega) k6 ((by intro h; cases h))
 replace K:=K.trans hk
 refine am ((vec_rd hr).mono fun z hz=>?_)
 ((try clear hr); (try clear hk); obtain ⟨v,G⟩:=z; obtain ⟨rfl,hr,hk⟩:=hz; dsimp only at hr hk ⊢)
 replace k2:=hk.obj (by omega) k2 ((by intro h; cases h))
 replace k3:=hk.obj (by omega) k3 ((by intro h; cases h))
 replace k4:=hk.obj (by omega) k4 ((by intro h; cases h))
 replace k6:=hk.obj (by omega) k6 ((by intro h; cases h))
 replace K:=K.trans hk
 refine a8 _ k4 ?_
 refine aa rfl ?_
 refine a9 (ct ⟨n,(gV r5).1,v0,f0,f1,f2⟩) rfl ?_
 refine a8 _ (ai _ (ap k4 ((by intro h; cases h)))) ?_
 refine aa rfl ?_
 refine a9 (ct ⟨n,(gV r5).1,(gV (gV r5).2).1,f0,f1,f2⟩) rfl ?_
 rw [hset_hset]
 replace hr:=hr.set (i:=q4) (.pcells (ct ⟨n,(gV r5).1,(gV (gV r5).2).1,f0,f1,f2⟩)) (by omega)
 replace k2:=(an G (i:=q4) (.pcells (ct ⟨n,(gV r5).1,(gV (gV r5).2).1,f0,f1,f2⟩)) (by omega)).trans k2
 replace k3:=(an G (i:=q4) (.pcells (ct ⟨n,(gV r5).1,(gV (gV r5).2).1,f0,f1,f2⟩)) (by omega)).trans k3
 replace k6:=(an G (i:=q4) (.pcells (ct ⟨n,(gV r5).1,(gV (gV r5).2).1,f0,f1,f2⟩)) (by omega)).trans k6
 replace K:=K.set (i:=q4) (.pcells (ct ⟨n,(gV r5).1,(gV (gV r5).2).1,f0,f1,f2⟩)) (by omega)
 replace k4:=ai (H:=G) (id:=q4) (.pcells (ct ⟨n,(gV r5).1,(gV (gV r5).2).1,f0,f1,f2⟩)) (ap k4 ((by intro h; cases h)))
 generalize hset G q4 (.pcells (ct ⟨n,(gV r5).1,(gV (gV r5).2).1,f0,f1,f2⟩))=G at hr k2 k3 k4 k6 K ⊢
 refine am ((vec_rd hr).mono fun z hz=>?_)
 ((try clear hr); (try clear hk); obtain ⟨v,G⟩:=z; obtain ⟨rfl,hr,hk⟩:=hz; dsimp only at hr hk ⊢)
 replace k2:=hk.obj (by omega) k2 ((by intro h; cases h))
 replace k3:=hk.obj (by omega) k3 ((by intro h; cases h))
 replace k4:=hk.obj (by omega) k4 ((by intro h; cases h))
 replace k6:=hk.obj (by omega) k6 ((by intro h; cases h))
 replace K:=K.trans hk
 refine am ((vec_rd hr).mono fun z hz=>?_)
 ((try clear hr); (try clear hk); obtain ⟨v,G⟩:=z; obtain ⟨rfl,hr,hk⟩:=hz; dsimp only at hr hk ⊢)
 replace k2:=hk.obj (by omega) k2 ((by intro h; cases h))
 replace k3:=hk.obj (by omega) k3 ((by intro h; cases h))
 replace k4:=hk.obj (by omega) k4 ((by intro h; cases h))
 replace k6:=hk.obj (by omega) k6 ((by intro h; cases h))
 replace K:=K.trans hk
 have hC:gC r=((⟨n,(gV r5).1,(gV (gV r5).2).1,f0,f1,f2⟩,⟨n,(gV (gV (gV r5).2).2).1,(gV (gV (gV (gV r5).2).2).2).1,f0,f1,f2⟩),(gV (gV (gV (gV r5).2).2).2).2):=by
  unfold gC; dsimp only; rw [hfr,hn]
 generalize (gV (gV (gV (gV r5).2).2).2)=g4 at *
 generalize (gV (gV (gV r5).2).2)=g3 at *
 generalize (gV (gV r5).2)=g2 at *
 generalize (gV r5)=g1 at *
 rw [hC]
 dsimp only
 refine a8 _ k6 ?_
 refine aa rfl ?_
 refine a9 (ct ⟨n,g3.1,v0,f0,f1,f2⟩) rfl ?_
 refine a8 _ (ai _ (ap k6 ((by intro h; cases h)))) ?_
 refine aa rfl ?_
 refine a9 (ct ⟨n,g3.1,g4.1,f0,f1,f2⟩) rfl ?_
 rw [hset_hset]
 generalize hX:(.pcells (ct ⟨n,g3.1,g4.1,f0,f1,f2⟩):HObj)=X
 replace hr:=hr.set (i:=q6) X (by omega)
 replace k2:=(an G (i:=q6) X (by omega)).trans k2
 replace k3:=(an G (i:=q6) X (by omega)).trans k3
 replace k4:=(an G (i:=q6) X (by omega)).trans k4
 replace K:=K.set (i:=q6) X (by omega)
 replace k6:=ai (H:=G) (id:=q6) X (ap k6 ((by intro h; cases h)))
 generalize hset G q6 X=G at hr k2 k3 k4 k6 K ⊢
 subst hX
 refine a8 _ k4 ?_
 refine ae (v:=ct ⟨n,g1.1,g2.1,f0,f1,f2⟩) rfl (of_decide_eq_true rfl) ?_
 refine a8 _ k6 ?_
 refine ae (v:=ct ⟨n,g3.1,g4.1,f0,f1,f2⟩) rfl (of_decide_eq_true rfl) ?_
 refine a8 _ k2 ?_
 refine aa rfl ?_
 refine a9 (ct ⟨n,g1.1,g2.1,f0,f1,f2⟩) rfl ?_
 generalize hX:(.pcells (ct ⟨n,g1.1,g2.1,f0,f1,f2⟩):HObj)=X
 replace hr:=hr.set (i:=q2) X (by omega)
 replace k3:=(an G (i:=q2) X (by omega)).trans k3
 have k6':=(an G (i:=q2) X (by omega)).trans k6
 replace K:=K.set (i:=q2) X (by omega)
 have k2':=ai (H:=G) (id:=q2) X (ap k2 ((by intro h; cases h)))
 generalize hset G q2 X=G' at hr k2' k3 k6' K ⊢
 refine a8 _ k3 ?_
 refine aa rfl ?_
 refine a9 (ct ⟨n,g3.1,g4.1,f0,f1,f2⟩) rfl ?_
 refine bq (by rw [k6,k6']) (by rw [k6]; rfl) ?_
 refine a8 _ ((an G' _ (by omega)).trans k2') ?_
 subst hX
 refine ae (v:=ct ⟨n,g1.1,g2.1,f0,f1,f2⟩) rfl (of_decide_eq_true rfl) ?_
 refine a8 _ (ai _ (ap k3 ((by intro h; cases h)))) ?_
 refine ae (v:=ct ⟨n,g3.1,g4.1,f0,f1,f2⟩) rfl (of_decide_eq_true rfl) ?_
 exact Has.intro ⟨rfl,hr.set _ (by omega),K.set _ (by omega)⟩
end Go.Proofs.YtflfdglnelbbiaaGreat
namespace Go.Proofs.YtflfdglnelbbiaaGreat
open Go Go.VM
def gCs (r:RS):Nat→List (Ct × Ct) × RS
 | 0=>([],r)
 | i+1=>((gCs r i).1++[(gC (gCs r i).2).1],(gC (gCs r i).2).2)
def xk:Nat→Ext
 | 0=>.nil
 | _=>.nn
theorem gCs_len (r:RS):∀ i,(gCs r i).1.length=i
 | 0=>rfl
 | i+1=>by show ((gCs r i).1++[_]).length=_; rw [List.length_append,gCs_len r i]; rfl
theorem gCs_short (r:RS):∀ i,(gCs r i).2.1.length≤r.1.length
 | 0=>Nat.le_refl _
 | i+1=>Nat.le_trans (gC_short _) (gCs_short r i)
def gE (r:RS):En × RS:=
 let n:=gT 16 r
 let s:=gS n.2
 let p:=gN 2 s.2
 let k:=gN 6 p.2
 let l:=gCs k.2 k.1
 let a:=gN 1099511627776 l.2
 let d:=gN 63 a.2
 (⟨⟨n.1,s.1,p.1,l.1.map (·.1)⟩,⟨n.1,s.1,p.1,l.1.map (·.2)⟩,xk k.1,xk k.1,a.1,d.1⟩,d.2)
theorem gE_short (r:RS):(gE r).2.1.length≤r.1.length:=by
 have h1:=gT_short 16 r
 have h2:=gS_short (gT 16 r).2
 have h3:=gN_short 2 (gS (gT 16 r).2).2
 have h4:=gN_short 6 (gN 2 (gS (gT 16 r).2).2).2
 have h5:=gCs_short (gN 6 (gN 2 (gS (gT 16 r).2).2).2).2 (gN 6 (gN 2 (gS (gT 16 r).2).2).2).1
 have h6:=gN_short 1099511627776 (gCs (gN 6 (gN 2 (gS (gT 16 r).2).2).2).2 (gN 6 (gN 2 (gS (gT 16 r).2).2).2).1).2
 have h7:=gN_short 63 (gN 1099511627776 (gCs (gN 6 (gN 2 (gS (gT 16 r).2).2).2).2 (gN 6 (gN 2 (gS (gT 16 r).2).2).2).1).2).2
 show (gN 63 (gN 1099511627776 (gCs (gN 6 (gN 2 (gS (gT 16 r).2).2).2).2 (gN 6 (gN 2 (gS (gT 16 r).2).2).2).1).2).2).2.1.length≤_
 omega
theorem hset_left:∀ (H L:Heap) (i:Nat) (o:HObj),i<H.length→hset (H++L) i o=hset H i o++L
 | [],_,_,_,h=>by simp at h
 | a::H,L,0,o,_=>rfl
 | a::H,L,i+1,o,h=>by show a::hset (H++L) i o=a::(hset H i o++L); rw [hset_left H L i o (by simpa using h)]
theorem hset_two (G:Heap) (z z' o o':HObj):hset (hset (G++[z]++[z']) G.length o) (G++[z]).length o'=G++[o]++[o']:=by
 rw [hset_left (G++[z]) [z'] G.length o (by simp),aH]
 have:(G++[z]).length=(G++[o]).length:=by simp
 rw [this,aH]
theorem app_other {G G':Heap} {v w v':AV} {e2:Ext} {es2 n2:Nat} {cs2:List PV} (h2:AppV G w e2 es2 n2 cs2) (h3:tokOf w=none∨tokOf w≠tokOf v) (hf:Fr v G G') (ht:tokOf v'=tokOf v∨tokOf v'=some G.length) :
 AppV G' w e2 es2 n2 cs2∧(tokOf w=none∨tokOf w≠tokOf v'):=by
 refine ⟨AppV.keep h2 hf h3,?_⟩
 cases hw:tokOf w with
 | none=>exact .inl rfl
 | some t=>
   refine .inr ?_
   rcases ht with ht | ht
   ·rw [ht,←hw]
    rcases h3 with h3 | h3
    ·rw [h3] at hw; cases hw
    ·exact h3
   ·rw [ht]
    have:=AppV.tok h2 t hw
    intro e; injection e with e; omega
theorem tok_sym {v w:AV} (h:tokOf w=none∨tokOf w≠tokOf v):tokOf v=none∨tokOf v≠tokOf w:=by
 cases hv:tokOf v with
 | none=>exact .inl rfl
 | some t=>
   refine .inr fun e=>?_
   rcases h with h | h
   ·rw [h] at e; cases e
   ·exact h (by rw [hv]; exact e.symm)
theorem forms10 {G:Heap} {v:AV} {n:Nat} {cs:List PV} (h:AppV G v .nil 10 n cs):(n=0∧cs=[]∧v = .pv (.sl .nil 0 []))∨(n≠0 ∧ ∃ t,v = .tsl t n cs):=by
 rcases h with ⟨h1,h2,h3,_⟩ | ⟨h1,_,t,h,_⟩
 ·exact .inl ⟨h1,h2,h3⟩
 ·exact .inr ⟨h1,t,h⟩
def eobj (n:List UInt8) (s p:Int) (v w:AV) (a d:Int):HObj:=match v,w with
 | .pv v,.pv w=>.pcells [sv n,.int .i64 s,.int .i64 p,v,sv n,.int .i64 s,.int .i64 p,w,.int .i64 a,.int .i64 d]
 | v,w=>.cells [.pv (sv n),.pv (.int .i64 s),.pv (.int .i64 p),v,.pv (sv n),.pv (.int .i64 s),.pv (.int .i64 p),w,.pv (.int .i64 a),.pv (.int .i64 d)]
def eav (e:En) (t t':Nat):List AV:=[.pv (sv e.d.name),.pv (.int .i64 e.d.prio),.pv (.int .i64 e.d.pol),.tsl t e.d.l.length (flat ct e.d.l),.pv (sv e.a.name),.pv (.int .i64 e.a.prio),.pv (.int .i64 e.a.pol),.tsl t' e.a.l.length (flat ct e.a.l),.pv (.int .i64 e.age),.pv (.int .i64 e.due)]
def EV (u:AV) (e:En):Prop:=u = .pv (.agg (en e))∨(e.dx = .nn∧e.ax = .nn ∧ ∃ t t',u = .agg (eav e t t'))
def ze:List PV:=[.str ⟨#[]⟩,.int .i64 0,.int .i64 0,.sl .nil 0 [],.str ⟨#[]⟩,.int .i64 0,.int .i64 0,.sl .nil 0 [],.int .i64 0,.int .i64 0]
def TokGe (n:Nat) (v:AV):Prop:=∀ t,tokOf v=some t→n≤t
theorem KR.fr {p:Nat} {H A B:Heap} {v:AV} (h:KR p H A) (hf:Fr v A B) (ht:TokGe H.length v):KR p H B:=
 ⟨Nat.le_trans h.1 hf.1,fun i hi hl=>(hf.2 i (Nat.lt_of_lt_of_le hl h.1) (fun e=>by have:=ht i e; omega)).trans (h.2 i hi hl)⟩
theorem TokGe.app {n:Nat} {v v':AV} {G:Heap} (h:TokGe n v) (hn:n≤G.length) (ht:tokOf v'=tokOf v∨tokOf v'=some G.length):TokGe n v':=fun t e=>by
 rcases ht with ht | ht
 ·exact h t (ht▸e)
 ·rw [ht] at e; injection e with e; omega
theorem RD.fr {p:Nat} {r:RS} {A B:Heap} {v:AV} {n:Nat} (h:RD A p r) (hf:Fr v A B) (ht:TokGe n v) (hp:p<n):RD B p r:=by
 have hl:=h.lt
 obtain ⟨⟨x,h⟩,hb⟩:=h
 exact ⟨⟨x,(hf.2 p hl (fun e=>by have:=ht p e; omega)).trans h⟩,hb⟩
set_option maxHeartbeats 4000000 in
theorem ent_rd {p:Nat} {r:RS} {H:Heap} (h:RD H p r):Has (EE env (.fn 79) [.ptr p 0] H) (fun y=>EV y.1 (gE r).1∧RD y.2 p (gE r).2∧KR p H y.2):=by
 have hl:=h.lt
 refine aK ?_
 refine am ((rtxt_rd (h.app [HObj.pcells ze])).mono fun z hz=>?_)
 ((try clear hr); (try clear hk); obtain ⟨v,G⟩:=z; obtain ⟨rfl,hr,hk⟩:=hz; dsimp only at hr hk ⊢)
 obtain ⟨q2,hq2⟩:∃ q,q=H.length:=⟨_,rfl⟩
 have k2:hget G q2 = .pcells ze:=hk.obj (by omega) (by rw [hq2]; exact ak H _) ((by intro h; cases h))
 have K:=(KR.app p H _).trans hk
 rw [←hq2]
 refine am ((rsig_rd hr).mono fun z hz=>?_)
 ((try clear hr); (try clear hk); obtain ⟨v,G⟩:=z; obtain ⟨rfl,hr,hk⟩:=hz; dsimp only at hr hk ⊢)
 replace k2:=hk.obj (by omega) k2 ((by intro h; cases h))
 replace K:=K.trans hk
 refine am ((num_rd hr 2 (by decide)).mono fun z hz=>?_)
 ((try clear hr); (try clear hk); obtain ⟨v,G⟩:=z; obtain ⟨rfl,hr,hk⟩:=hz; dsimp only at hr hk ⊢)
 replace k2:=hk.obj (by omega) k2 ((by intro h; cases h))
 replace K:=K.trans hk
 generalize hgT:gT 16 r=gt at *
 generalize hgS:gS gt.2=gs at *
 generalize hgP:gN 2 gs.2=gp at *
 refine af ?_
 refine aa rfl ?_
 refine a9 [sv gt.1,.int .i64 gs.1,.int .i64 gp.1,.sl .nil 0 []] rfl ?_
 rw [aH]
 refine af ?_
 refine ae (v:=[sv gt.1,.int .i64 gs.1,.int .i64 gp.1,.sl .nil 0 []]) rfl (of_decide_eq_true rfl) ?_
 refine af ?_
 refine ae (v:=[sv gt.1,.int .i64 gs.1,.int .i64 gp.1,.sl .nil 0 []]) rfl (of_decide_eq_true rfl) ?_
 replace hr:=hr.app [.pcells [sv gt.1,.int .i64 gs.1,.int .i64 gp.1,.sl .nil 0 []]]
 replace k2:=(aA [.pcells [sv gt.1,.int .i64 gs.1,.int .i64 gp.1,.sl .nil 0 []]] (ap k2 ((by intro h; cases h)))).trans k2
 replace K:=K.trans (KR.app p _ [.pcells [sv gt.1,.int .i64 gs.1,.int .i64 gp.1,.sl .nil 0 []]])
 generalize G++[.pcells [sv gt.1,.int .i64 gs.1,.int .i64 gp.1,.sl .nil 0 []]]=G at hr k2 K ⊢
 refine af ?_
 refine aa rfl ?_
 refine a9 [sv gt.1,.int .i64 gs.1,.int .i64 gp.1,.sl .nil 0 [],sv gt.1,.int .i64 gs.1,.int .i64 gp.1,.sl .nil 0 [],.int .i64 0,.int .i64 0] rfl ?_
 rw [aH]
 obtain ⟨q4,hq4⟩:∃ q,q=G.length:=⟨_,rfl⟩
 have hp4:q2<q4:=by rw [hq4]; exact ap k2 ((by intro h; cases h))
 have k4:hget (G++[eobj gt.1 gs.1 gp.1 (.pv (.sl .nil 0 [])) (.pv (.sl .nil 0 [])) 0 0]) q4=eobj gt.1 gs.1 gp.1 (.pv (.sl .nil 0 [])) (.pv (.sl .nil 0 [])) 0 0:=by rw [hq4]; exact ak G _
 replace hr:=hr.app [eobj gt.1 gs.1 gp.1 (.pv (.sl .nil 0 [])) (.pv (.sl .nil 0 [])) 0 0]
 replace k2:=(aA [eobj gt.1 gs.1 gp.1 (.pv (.sl .nil 0 [])) (.pv (.sl .nil 0 [])) 0 0] (ap k2 ((by intro h; cases h)))).trans k2
 replace K:=K.trans (KR.app p _ [eobj gt.1 gs.1 gp.1 (.pv (.sl .nil 0 [])) (.pv (.sl .nil 0 [])) 0 0])
 rw [←hq4]
 show Has (callSK _ _ _ (G++[eobj gt.1 gs.1 gp.1 (.pv (.sl .nil 0 [])) (.pv (.sl .nil 0 [])) 0 0]) _) _
 generalize G++[eobj gt.1 gs.1 gp.1 (.pv (.sl .nil 0 [])) (.pv (.sl .nil 0 [])) 0 0]=G at hr k2 k4 K ⊢
 refine am ((num_rd hr 6 (by decide)).mono fun z hz=>?_)
 ((try clear hr); (try clear hk); obtain ⟨v,G⟩:=z; obtain ⟨rfl,hr,hk⟩:=hz; dsimp only at hr hk ⊢)
 replace k2:=hk.obj (by omega) k2 ((by intro h; cases h))
 replace k4:=hk.obj (by omega) k4 ((by intro h; cases h))
 replace K:=K.trans hk
 clear hk h
 generalize hgK:gN 6 gp.2=gk at *
 have hk6:gk.1≤6:=by rw [←hgK]; exact gN_le 6 _
 have hpH:p<H.length:=hl
 refine aw ?_
 refine aC (σ:=Nat × AV × AV × Heap) (fun t=>gk.1-t.1) (fun t=>[(0,.ptr p 0),(2,.ptr q2 0),(4,.ptr q4 0),(18,.pv (.int .i64 gk.1)),(19,.pv (.int .i64 t.1))]) (fun t=>t.2.2.2)
  (fun t=>t.1≤gk.1∧RD t.2.2.2 p (gCs gk.2 t.1).2∧hget t.2.2.2 q2 = .pcells ze∧hget t.2.2.2 q4=eobj gt.1 gs.1 gp.1 t.2.1 t.2.2.1 0 0∧AppV t.2.2.2 t.2.1 .nil 10 t.1 (flat ct ((gCs gk.2 t.1).1.map (·.1)))∧AppV t.2.2.2 t.2.2.1 .nil 10 t.1 (flat ct ((gCs gk.2 t.1).1.map (·.2)))
    ∧ (tokOf t.2.2.1=none∨tokOf t.2.2.1≠tokOf t.2.1)∧TokGe H.length t.2.1∧TokGe H.length t.2.2.1∧KR p H t.2.2.2)
  (fun ⟨i,v,w,G⟩ ⟨hi,hr,k2,k4,hv,hw,hd,hgv,hgw,K⟩ r'=>?_) (0,.pv (.sl .nil 0 []),.pv (.sl .nil 0 []),G)
  ⟨Nat.zero_le _,hr,k2,k4,AppV.new rfl,AppV.new rfl,.inl rfl,(fun t e=>by cases e),(fun t e=>by cases e),K⟩ ⟨rfl,rfl,rfl,rfl,rfl,trivial⟩ rfl
 dsimp only at hi hr k2 k4 hv hw hd hgv hgw K ⊢
 refine ah (fun hc=>?_) (fun hc=>?_)
 ·have hc':i+1≤gk.1:=by omega
  refine am ((ctr_rd hr).mono fun z hz=>?_)
  clear hr
  obtain ⟨v',G'⟩:=z
  obtain ⟨rfl,hr,hk⟩:=hz
  dsimp only at hr hk ⊢
  replace k2:=hk.obj (by omega) k2 ((by intro h; cases h))
  have eo:eobj gt.1 gs.1 gp.1 v w 0 0 ≠ .dead:=by unfold eobj; split<;>intro h<;>cases h
  have et:∀ n es,eobj gt.1 gs.1 gp.1 v w 0 0 ≠ .tok n es:=by intro n es; unfold eobj; split<;>intro h<;>cases h
  replace k4:=hk.obj (by omega) k4 eo
  have htok:∀ {u:AV} {n:Nat} {cs:List PV},AppV G u .nil 10 n cs→TokGe H.length u→AppV G' u .nil 10 n cs:=fun {u n cs} hu hg=>by
   rcases hu with hu | ⟨a,b,t,rfl,e⟩
   ·exact .inl hu
   ·exact .inr ⟨a,b,t,rfl,hk.obj (by have:=hg t rfl; omega) e ((by intro h; cases h))⟩
  replace hv:=htok hv hgv
  replace hw:=htok hw hgw
  clear htok
  replace K:=K.trans hk
  generalize hC:gC (gCs gk.2 i).2=gc at *
  have hnext:gCs gk.2 (i+1)=((gCs gk.2 i).1++[gc.1],gc.2):=by show ((gCs gk.2 i).1++[(gC (gCs gk.2 i).2).1],(gC (gCs gk.2 i).2).2)=_; rw [hC]
  obtain ⟨⟨c,d⟩,r2⟩:=gc
  dsimp only at hr ⊢
  refine a8 _ ((aA _ (by simp)).trans (ak G' _)) ?_
  refine aa rfl ?_
  refine a9 (ct c) rfl ?_
  refine a8 _ ((an _ _ (by simp)).trans (ak _ _)) ?_
  refine aa rfl ?_
  refine a9 (ct d) rfl ?_
  rw [hset_two]
  obtain ⟨q5,hq5⟩:∃ q,q=G'.length:=⟨_,rfl⟩
  obtain ⟨q6,hq6⟩:∃ q,q=(G'++[HObj.pcells zc]).length:=⟨_,rfl⟩
  have hq6':q6=q5+1:=by rw [hq6,hq5]; simp
  have k5:hget (G'++[.pcells (ct c)]++[.pcells (ct d)]) q5 = .pcells (ct c):=by rw [hq5]; exact (aA _ (by simp)).trans (ak G' _)
  have k6:hget (G'++[.pcells (ct c)]++[.pcells (ct d)]) q6 = .pcells (ct d):=by rw [hq6,show (G'++[HObj.pcells zc]).length=(G'++[HObj.pcells (ct c)]).length by simp]; exact ak _ _
  have h45:q4<q5:=by rw [hq5]; exact ap k4 eo
  have hHG:H.length≤G'.length:=K.1
  rw [←hq5,show List.length (G'++[HObj.pcells [PV.str { data := #[] },PV.int IntKind.i64 0,PV.int IntKind.i64 0,PV.int IntKind.i64 0,PV.int IntKind.i64 0,PV.int IntKind.i64 0,PV.int IntKind.i64 0,PV.bool false,PV.bool false,PV.bool false]])=q6 from hq6.symm]
  rw [List.append_assoc] at k5 k6 ⊢
  generalize hL:[HObj.pcells (ct c)]++[HObj.pcells (ct d)]=L at k5 k6 ⊢
  replace hr:=hr.app L
  replace k2:=(aA L (ap k2 ((by intro h; cases h)))).trans k2
  replace k4:=(aA L (ap k4 eo)).trans k4
  replace hv:=AppV_grow hv L
  replace hw:=AppV_grow hw L
  replace K:=K.trans (KR.app p _ L)
  have hHG:H.length≤(G'++L).length:=K.1
  clear hk hL
  generalize G'++L=G2 at *
  clear hC
  have hlen:((gCs gk.2 i).1).length=i:=gCs_len _ _
  have stepB:∀ (G3:Heap) (t3:Nat),hget G3 q4=eobj gt.1 gs.1 gp.1 (.tsl t3 (i+1) (flat ct ((gCs gk.2 i).1.map (·.1))++ct c)) w 0 0→True:=fun _ _ _=>trivial
  clear stepB
  rcases forms10 hv with ⟨hz,hcs,hve⟩ | ⟨hz,t,hve⟩
  all_goals
   have hwe:(i=0→w = .pv (.sl .nil 0 [])):=fun h0=>by
    rcases forms10 hw with ⟨_,_,e⟩ | ⟨hn,_⟩
    ·exact e
    ·exact absurd h0 hn
   have k4l:=k4
   rw [hve] at k4l
   first
    | rw [hwe hz] at k4l
    | skip
   refine a8 _ k4l ?_
   first
    | refine ab rfl ?_
    | skip
   refine a8 _ k5 ?_
   refine ae (v:=ct c) rfl (of_decide_eq_true rfl) ?_
   have hvl:=hv
   rw [hve] at hvl
   refine app_has (m:=1) (new:=ct c) hvl rfl (by show (i+1)*72≤140737488355328; omega) (fun v' G3 hv' hf ht=>?_)
   rw [←hve] at hf ht
   obtain ⟨hw3,hd3⟩:=app_other hw hd hf ht
   have k4':=Fr.obj hv hf k4l (by rw [←k4l,k4]; exact eo) (by rw [←k4l,k4]; exact et)
   have k2':=Fr.obj hv hf k2 ((by intro h; cases h)) ((fun _ _ h=>by cases h))
   have k6':=Fr.obj hv hf k6 ((by intro h; cases h)) ((fun _ _ h=>by cases h))
   have hr':=hr.fr hf hgv hpH
   have K':=K.fr hf hgv
   have hgv':=hgv.app hHG ht
   have hHG3:H.length≤G3.length:=K'.1
   rcases forms10 hv' with ⟨hz3,_⟩ | ⟨hz3,t3,rfl⟩
   ·omega
   have hlt4:q4<G3.length:=ap k4' (by rw [←k4l,k4]; exact eo)
   refine a8 _ k4' ?_
   have eo':∀ n es,hget G3 q4 ≠ .tok n es:=fun n es h=>by rw [k4',←k4l,k4] at h; exact et n es h
   obtain ⟨G4,hG4⟩:∃ G4,hset G3 q4 (.cells [.pv (sv gt.1),.pv (.int .i64 gs.1),.pv (.int .i64 gp.1),.tsl t3 (i+1) (flat ct ((gCs gk.2 i).1.map (·.1))++ct c),.pv (sv gt.1),.pv (.int .i64 gs.1),.pv (.int .i64 gp.1),w,.pv (.int .i64 0),.pv (.int .i64 0)])=G4:=⟨_,rfl⟩
   first
    | rw [hwe hz] at hG4
    | skip
   have e4:hget G4 q4 = .cells [.pv (sv gt.1),.pv (.int .i64 gs.1),.pv (.int .i64 gp.1),.tsl t3 (i+1) (flat ct ((gCs gk.2 i).1.map (·.1))++ct c),.pv (sv gt.1),.pv (.int .i64 gs.1),.pv (.int .i64 gp.1),w,.pv (.int .i64 0),.pv (.int .i64 0)]:=by
    rw [←hG4]
    first
     | exact ai _ hlt4
     | (rw [hwe hz]; exact ai _ hlt4)
   have k2':hget G4 q2 = .pcells ze:=by rw [←hG4]; exact (an _ _ (by omega)).trans k2'
   have k6':hget G4 q6 = .pcells (ct d):=by rw [←hG4]; exact (an _ _ (by omega)).trans k6'
   have hr':RD G4 p r2:=by rw [←hG4]; exact hr'.set _ (by omega)
   have K':KR p H G4:=by rw [←hG4]; exact K'.set _ (by omega)
   have hv4:AppV G4 (.tsl t3 (i+1) (flat ct ((gCs gk.2 i).1.map (·.1))++ct c)) .nil 10 (i+1) (flat ct ((gCs gk.2 i).1.map (·.1))++ct c):=by rw [←hG4]; exact b9 hv' _ rfl eo'
   have hw4:AppV G4 w .nil 10 i (flat ct ((gCs gk.2 i).1.map (·.2))):=by rw [←hG4]; exact b9 hw3 _ rfl eo'
   have hHG4:H.length≤G4.length:=K'.1
   clear k4' eo' hw3 hv'
   subst hG4
   refine a8 _ e4 ?_
   refine ba ?_
   refine a8 _ k6' ?_
   refine ae (v:=ct d) rfl (of_decide_eq_true rfl) ?_
   refine app_has (m:=1) (new:=ct d) hw4 rfl (by show (i+1)*72≤140737488355328; omega) (fun w' G5 hw' hf2 ht2=>?_)
   obtain ⟨hv5,hd5⟩:=app_other hv4 (tok_sym hd3) hf2 ht2
   have e5:=Fr.obj hw4 hf2 e4 ((by intro h; cases h)) ((fun _ _ h=>by cases h))
   have k2':=Fr.obj hw4 hf2 k2' ((by intro h; cases h)) ((fun _ _ h=>by cases h))
   have hr':=hr'.fr hf2 hgw hpH
   have K':=K'.fr hf2 hgw
   have hgw':=hgw.app hHG4 ht2
   have hHG5:H.length≤G5.length:=K'.1
   rcases forms10 hw' with ⟨hz5,_⟩ | ⟨hz5,t5,rfl⟩
   ·omega
   have hlt5:q4<G5.length:=ap e5 ((by intro h; cases h))
   refine a8 _ e5 ?_
   refine a9 _ (aq (by omega)) ?_
   refine Has.intro ⟨(i+1,.tsl t3 (i+1) (flat ct ((gCs gk.2 i).1.map (·.1))++ct c),.tsl t5 (i+1) (flat ct ((gCs gk.2 i).1.map (·.2))++ct d),hset G5 q4 (eobj gt.1 gs.1 gp.1 (.tsl t3 (i+1) (flat ct ((gCs gk.2 i).1.map (·.1))++ct c)) (.tsl t5 (i+1) (flat ct ((gCs gk.2 i).1.map (·.2))++ct d)) 0 0)),
    ⟨hc',?_,?_,?_,?_,?_,?_,?_,?_,?_⟩,(by dsimp only; omega),⟨rfl,rfl,rfl,rfl,rfl,trivial⟩,rfl⟩
   all_goals (try dsimp only)
   all_goals (try rw [hnext])
   ·exact hr'.set _ (by omega)
   ·exact (an _ _ (by omega)).trans k2'
   ·exact ai _ hlt5
   ·rw [List.map_append,List.map_cons,List.map_nil,←flat_snoc]; exact b9 hv5 _ e5 ((fun _ _ h=>by cases h))
   ·rw [List.map_append,List.map_cons,List.map_nil,←flat_snoc]; exact b9 hw' _ e5 ((fun _ _ h=>by cases h))
   ·exact tok_sym hd5
   ·exact fun t e=>hgv' t e
   ·exact fun t e=>hgw' t e
   ·exact K'.set _ (by omega)
 have hik:i=gk.1:=by omega
 have hgE:gE r=(⟨⟨gt.1,gs.1,gp.1,(gCs gk.2 gk.1).1.map (·.1)⟩,⟨gt.1,gs.1,gp.1,(gCs gk.2 gk.1).1.map (·.2)⟩,xk gk.1,xk gk.1,(gN 1099511627776 (gCs gk.2 gk.1).2).1,(gN 63 (gN 1099511627776 (gCs gk.2 gk.1).2).2).1⟩,(gN 63 (gN 1099511627776 (gCs gk.2 gk.1).2).2).2):=by
  unfold gE; dsimp only; rw [hgT,hgS,hgP,hgK]
 rw [hgE]
 clear hgE
 have hlen:=gCs_len gk.2 gk.1
 rw [hik] at hr hv hw
 clear hik hi
 have eo:eobj gt.1 gs.1 gp.1 v w 0 0 ≠ .dead:=by unfold eobj; split<;>intro h<;>cases h
 have hl1:((gCs gk.2 gk.1).1.map (·.1)).length=gk.1:=by rw [List.length_map,hlen]
 have hl2:((gCs gk.2 gk.1).1.map (·.2)).length=gk.1:=by rw [List.length_map,hlen]
 generalize hA:(gCs gk.2 gk.1).1.map (·.1)=A at *
 generalize hB:(gCs gk.2 gk.1).1.map (·.2)=B at *
 generalize (gCs gk.2 gk.1).2=r4 at *
 refine Has.intro ?_
 refine am ((num_rd hr 1099511627776 (by decide)).mono fun z hz=>?_)
 clear hr
 obtain ⟨v',G'⟩:=z
 obtain ⟨rfl,hr,hk⟩:=hz
 dsimp only at hr hk ⊢
 replace k2:=hk.obj (by omega) k2 ((by intro h; cases h))
 replace k4:=hk.obj (by omega) k4 eo
 replace K:=K.trans hk
 clear hk
 generalize gN 1099511627776 r4=ga at *
 refine am ((num_rd hr 63 (by decide)).mono fun z hz=>?_)
 clear hr
 obtain ⟨v',G''⟩:=z
 obtain ⟨rfl,hr,hk⟩:=hz
 dsimp only at hr hk ⊢
 replace k2:=hk.obj (by omega) k2 ((by intro h; cases h))
 replace k4:=hk.obj (by omega) k4 eo
 replace K:=K.trans hk
 clear hk
 generalize gN 63 ga.2=gd at *
 have h2l:=ap k2 ((by intro h; cases h))
 have h4l:=ap k4 eo
 rcases forms10 hv with ⟨hz,hcs,rfl⟩ | ⟨hz,t,rfl⟩
 ·rcases forms10 hw with ⟨hz2,hcs2,rfl⟩ | ⟨hz2,t2,rfl⟩
  rotate_left
  ·omega
  have hA0:A=[]:=List.eq_nil_of_length_eq_zero (by omega)
  have hB0:B=[]:=List.eq_nil_of_length_eq_zero (by omega)
  rw [hz,hA0,hB0]
  refine a8 _ k4 ?_
  refine aa rfl ?_
  refine a9 [sv gt.1,.int .i64 gs.1,.int .i64 gp.1,.sl .nil 0 [],sv gt.1,.int .i64 gs.1,.int .i64 gp.1,.sl .nil 0 [],.int .i64 ga.1,.int .i64 0] rfl ?_
  refine a8 _ (ai _ h4l) ?_
  refine aa rfl ?_
  refine a9 [sv gt.1,.int .i64 gs.1,.int .i64 gp.1,.sl .nil 0 [],sv gt.1,.int .i64 gs.1,.int .i64 gp.1,.sl .nil 0 [],.int .i64 ga.1,.int .i64 gd.1] rfl ?_
  rw [hset_hset]
  refine a8 _ (ai _ h4l) ?_
  refine ae (v:=[sv gt.1,.int .i64 gs.1,.int .i64 gp.1,.sl .nil 0 [],sv gt.1,.int .i64 gs.1,.int .i64 gp.1,.sl .nil 0 [],.int .i64 ga.1,.int .i64 gd.1]) rfl (of_decide_eq_true rfl) ?_
  refine a8 _ ((an _ _ (by omega)).trans k2) ?_
  refine aa rfl ?_
  refine a9 [sv gt.1,.int .i64 gs.1,.int .i64 gp.1,.sl .nil 0 [],sv gt.1,.int .i64 gs.1,.int .i64 gp.1,.sl .nil 0 [],.int .i64 ga.1,.int .i64 gd.1] rfl ?_
  refine a8 _ (ai _ (by rw [br]; omega)) ?_
  refine ae (v:=[sv gt.1,.int .i64 gs.1,.int .i64 gp.1,.sl .nil 0 [],sv gt.1,.int .i64 gs.1,.int .i64 gp.1,.sl .nil 0 [],.int .i64 ga.1,.int .i64 gd.1]) rfl (of_decide_eq_true rfl) ?_
  exact Has.intro ⟨.inl rfl,(hr.set _ (by omega)).set _ (by omega),(K.set _ (by omega)).set _ (by omega)⟩
 ·rcases forms10 hw with ⟨hz2,hcs2,rfl⟩ | ⟨hz2,t2,rfl⟩
  ·omega
  have hx:xk gk.1 = .nn:=by
   cases h:gk.1 with
   | zero=>omega
   | succ n=>rfl
  rw [hx]
  refine a8 _ k4 ?_
  refine a8 _ (ai _ h4l) ?_
  refine a8 _ (ai _ (by rw [br]; exact h4l)) ?_
  refine a8 _ ((an _ _ (by omega)).trans ((an _ _ (by omega)).trans k2)) ?_
  refine a8 _ (ai _ (by rw [br,br]; omega)) ?_
  refine Has.intro ⟨.inr ⟨rfl,rfl,t,t2,?_⟩,((hr.set _ (by omega)).set _ (by omega)).set _ (by omega),((K.set _ (by omega)).set _ (by omega)).set _ (by omega)⟩
  unfold eav
  dsimp only
  rw [hl1,hl2]
  rfl
end Go.Proofs.YtflfdglnelbbiaaGreat
namespace Go.Proofs.YtflfdglnelbbiaaGreat
open Go Go.VM
def gEs (r:RS):Nat→List En × RS
 | 0=>([],r)
 | i+1=>((gEs r i).1++[(gE (gEs r i).2).1],(gE (gEs r i).2).2)
def gI (r:RS):Nat→List Int × RS
 | 0=>(z8,r)
 | i+1=>((gI r i).1.set i ((gN 1073741824 (gI r i).2).1:Nat),(gN 1073741824 (gI r i).2).2)
def gH (r:RS):Ho × RS:=
 let a:=gT 16 r
 let b:=gT 16 a.2
 let k:=gN 1 b.2
 let s:=gI k.2 8
 (⟨⟨a.1,b.1,k.1⟩,s.1⟩,s.2)
def gHs (r:RS):Nat→List Ho × RS
 | 0=>([],r)
 | i+1=>((gHs r i).1++[(gH (gHs r i).2).1],(gH (gHs r i).2).2)
def gSt (b:List UInt8):St × RS:=
 let n:=gN 1099511627776 (b,0)
 let k:=gN 16 n.2
 let e:=gEs k.2 k.1
 let m:=gN 192 e.2
 let h:=gHs m.2 m.1
 (⟨n.1,e.1,h.1⟩,h.2)
theorem gEs_len (r:RS):∀ i,(gEs r i).1.length=i
 | 0=>rfl
 | i+1=>by show ((gEs r i).1++[_]).length=_; rw [List.length_append,gEs_len r i]; rfl
theorem gHs_len (r:RS):∀ i,(gHs r i).1.length=i
 | 0=>rfl
 | i+1=>by show ((gHs r i).1++[_]).length=_; rw [List.length_append,gHs_len r i]; rfl
theorem gI_len (r:RS):∀ i,(gI r i).1.length=8
 | 0=>rfl
 | i+1=>by show ((gI r i).1.set _ _).length=_; rw [List.length_set,gI_len r i]
theorem gHs_eight (r:RS):∀ i,∀ h∈(gHs r i).1,h.sp.length=8
 | 0,h,hh=>by simp [gHs] at hh
 | i+1,h,hh=>by
   rcases List.mem_append.1 hh with hh | hh
   ·exact gHs_eight r i h hh
   ·simp at hh; subst hh; exact gI_len _ 8
theorem gEs_short (r:RS):∀ i,(gEs r i).2.1.length≤r.1.length
 | 0=>Nat.le_refl _
 | i+1=>Nat.le_trans (gE_short _) (gEs_short r i)
def s0:St:=⟨0,[],[]⟩
noncomputable def getS (b:List UInt8):St × Int:=
 if T.rEnd (gSt b).2.1 (gSt b).2.2≠0 then (s0,T.rEnd (gSt b).2.1 (gSt b).2.2) else if rightP (gSt b).1 then ((gSt b).1,0) else (s0,11)
theorem hoc_set (o:Ow) (l:List Int) (i:Nat) (n:Int):(hoc ⟨o,l⟩).set (addO (addO 0 3) (mulE ((i:Nat):Int).toNat 1)) (.int .i64 n)=hoc ⟨o,l.set i n⟩:=by
 have hidx:addO (addO 0 3) (mulE ((i:Nat):Int).toNat 1)=3+i:=by rw [addO_eq,addO_eq,aG,Nat.mul_one]; rfl
 rw [hidx]
 show ([sv o.pod,sv o.ctr,.int .i64 o.kind]++l.map (PV.int .i64)).set (3+i) _=[sv o.pod,sv o.ctr,.int .i64 o.kind]++(l.set i n).map (PV.int .i64)
 rw [List.map_set,List.set_append_right _ _ (by simp)]
 simp
theorem hoc_idx {o:Ow} {l:List Int} (hl:l.length=8) {i:Nat} (h:i<8):Nat.blt (addO (addO 0 3) (mulE ((i:Nat):Int).toNat 1)) (hoc ⟨o,l⟩).length=true:=by
 have hidx:addO (addO 0 3) (mulE ((i:Nat):Int).toNat 1)=3+i:=by rw [addO_eq,addO_eq,aG,Nat.mul_one]; rfl
 rw [hidx,hoc_len hl]
 exact Nat.ble_eq_true_of_le (by omega)
theorem formsG {G:Heap} {v:AV} {es n:Nat} {cs:List PV} (h:AppV G v .nil es n cs):(n=0∧cs=[]∧v = .pv (.sl .nil 0 []))∨(n≠0 ∧ ∃ t,v = .tsl t n cs):=by
 rcases h with ⟨h1,h2,h3,_⟩ | ⟨h1,_,t,h,_⟩
 ·exact .inl ⟨h1,h2,h3⟩
 ·exact .inr ⟨h1,t,h⟩
def sobj (n:Int) (v w:AV):HObj:=match v,w with
 | .pv v,.pv w=>.pcells [.int .i64 n,v,w]
 | v,w=>.cells [.pv (.int .i64 n),v,w]
theorem aX {n:Int} {v w:AV}:sobj n v w ≠ .dead ∧ ∀ m es,sobj n v w ≠ .tok m es:=by
 constructor
 ·unfold sobj; split<;>intro h<;>cases h
 ·intro m es; unfold sobj; split<;>intro h<;>cases h
end Go.Proofs.YtflfdglnelbbiaaGreat
namespace Go.Proofs.YtflfdglnelbbiaaGreat
open Go Go.VM
theorem gT_le (r:RS):(gT 16 r).1.length≤r.1.length:=(T.rTxt_short r.1 r.2 16).1
theorem ml {n:Nat} (h:n≤1000000):n≤maxLen:=by rw [aS]; omega
theorem gCs_small (r:RS) (hb:r.1.length≤1000000):∀ i,∀ x∈(gCs r i).1,x.1.name.length≤maxLen∧x.2.name.length≤maxLen
 | 0,x,hx=>by simp [gCs] at hx
 | i+1,x,hx=>by
   rcases List.mem_append.1 hx with hx | hx
   ·exact gCs_small r hb i x hx
   ·simp at hx; subst hx
    have h1:(gT 16 (gCs r i).2).1.length≤(gCs r i).2.1.length:=gT_le _
    have h2:=gCs_short r i
    exact ⟨ml (show (gT 16 (gCs r i).2).1.length≤_ by omega),ml (show (gT 16 (gCs r i).2).1.length≤_ by omega)⟩
theorem gE_small (r:RS) (hb:r.1.length≤1000000):smallE (gE r).1:=by
 have h1:=gT_le r
 have h3:=gT_short 16 r
 have h4:=gS_short (gT 16 r).2
 have h5:=gN_short 2 (gS (gT 16 r).2).2
 have h6:=gN_short 6 (gN 2 (gS (gT 16 r).2).2).2
 have hk:=gN_le 6 (gN 2 (gS (gT 16 r).2).2).2
 have hl:=gCs_len (gN 6 (gN 2 (gS (gT 16 r).2).2).2).2 (gN 6 (gN 2 (gS (gT 16 r).2).2).2).1
 have hc:=gCs_small (gN 6 (gN 2 (gS (gT 16 r).2).2).2).2 (by omega) (gN 6 (gN 2 (gS (gT 16 r).2).2).2).1
 refine ⟨⟨ml (show (gT 16 r).1.length≤_ by omega),?_,?_⟩,⟨ml (show (gT 16 r).1.length≤_ by omega),?_,?_⟩⟩
 ·show ((gCs (gN 6 (gN 2 (gS (gT 16 r).2).2).2).2 (gN 6 (gN 2 (gS (gT 16 r).2).2).2).1).1.map (·.1)).length≤maxLen
  rw [List.length_map,hl]; exact ml (by omega)
 ·intro c hx
  obtain ⟨x,hx',rfl⟩:=List.mem_map.1 (show c∈(gCs (gN 6 (gN 2 (gS (gT 16 r).2).2).2).2 (gN 6 (gN 2 (gS (gT 16 r).2).2).2).1).1.map (·.1) from hx)
  exact (hc x hx').1
 ·show ((gCs (gN 6 (gN 2 (gS (gT 16 r).2).2).2).2 (gN 6 (gN 2 (gS (gT 16 r).2).2).2).1).1.map (·.2)).length≤maxLen
  rw [List.length_map,hl]; exact ml (by omega)
 ·intro c hx
  obtain ⟨x,hx',rfl⟩:=List.mem_map.1 (show c∈(gCs (gN 6 (gN 2 (gS (gT 16 r).2).2).2).2 (gN 6 (gN 2 (gS (gT 16 r).2).2).2).1).1.map (·.2) from hx)
  exact (hc x hx').2
theorem gEs_small (r:RS) (hb:r.1.length≤1000000):∀ i,∀ e∈(gEs r i).1,smallE e
 | 0,x,hx=>by simp [gEs] at hx
 | i+1,x,hx=>by
   rcases List.mem_append.1 hx with hx | hx
   ·exact gEs_small r hb i x hx
   ·simp at hx; subst hx
    exact gE_small _ (Nat.le_trans (gEs_short r i) hb)
theorem eight {l:List Int} (h:l.length=8):∃ a0 a1 a2 a3 a4 a5 a6 a7,l=[a0,a1,a2,a3,a4,a5,a6,a7]:=by
 match l,h with
 | [a0,a1,a2,a3,a4,a5,a6,a7],_=>exact ⟨_,_,_,_,_,_,_,_,rfl⟩
def okx (x:Ext) (b:List UInt8):Prop:=(x = .nil∧b=[])∨x = .nn∨x = .nnx
theorem AppV.kr {p n:Nat} {G G1:Heap} {v:AV} {e:Ext} {es m:Nat} {cs:List PV} (h:AppV G v e es m cs) (hk:KR p G G1) (hg:TokGe n v) (hp:p<n):AppV G1 v e es m cs:=by
 rcases h with hu | ⟨a,b,t,rfl,h⟩
 ·exact .inl hu
 ·exact .inr ⟨a,b,t,rfl,hk.obj (by have:=hg t rfl; omega) h ((by intro h; cases h))⟩
set_option maxHeartbeats 8000000 in
theorem get_ok' (x:Ext) (b:List UInt8) (hx:okx x b) (hb:b.length≤1000000):∃ x1 x2,EP (EE env) 41 [.sl x b.length (bc b)]=some (.tup [.agg (stc (getS b).1 x1 x2),.int .i64 (getS b).2]):=by
 have main:Has (EP (EE env) 41 [.sl x b.length (bc b)]) (fun u=>∃ x1 x2,u = .tup [.agg (stc (getS b).1 x1 x2),.int .i64 (getS b).2]):=by
  refine aE ?_
  obtain ⟨xe,he⟩:=T.read_ok x b hx hb [.pcells ([.int .i64 0,.sl .nil 0 [],.sl .nil 0 []])]
  refine au he ?_
  clear he
  have hr:RD ([HObj.pcells ([.int .i64 0,.sl .nil 0 [],.sl .nil 0 []])]++[T.rdO xe b 0]) 1 (b,0):=⟨⟨xe,rfl⟩,hb⟩
  have k2:hget ([HObj.pcells ([.int .i64 0,.sl .nil 0 [],.sl .nil 0 []])]++[T.rdO xe b 0]) 0 = .pcells ([.int .i64 0,.sl .nil 0 [],.sl .nil 0 []]):=rfl
  generalize [HObj.pcells ([.int .i64 0,.sl .nil 0 [],.sl .nil 0 []])]++[T.rdO xe b 0]=G0 at hr k2 ⊢
  refine am ((num_rd hr 1099511627776 (by decide)).mono fun z hz=>?_)
  ((try clear hr); (try clear hk); obtain ⟨v',G⟩:=z; obtain ⟨rfl,hr,hk⟩:=hz; dsimp only at hr hk ⊢)
  replace k2:=hk.obj (by omega) k2 ((by intro h; cases h))
  have hgS:gSt b=(⟨(gN 1099511627776 (b,0)).1,(gEs (gN 16 (gN 1099511627776 (b,0)).2).2 (gN 16 (gN 1099511627776 (b,0)).2).1).1,(gHs (gN 192 (gEs (gN 16 (gN 1099511627776 (b,0)).2).2 (gN 16 (gN 1099511627776 (b,0)).2).1).2).2 (gN 192 (gEs (gN 16 (gN 1099511627776 (b,0)).2).2 (gN 16 (gN 1099511627776 (b,0)).2).1).2).1).1⟩,(gHs (gN 192 (gEs (gN 16 (gN 1099511627776 (b,0)).2).2 (gN 16 (gN 1099511627776 (b,0)).2).1).2).2 (gN 192 (gEs (gN 16 (gN 1099511627776 (b,0)).2).2 (gN 16 (gN 1099511627776 (b,0)).2).1).2).1).2):=rfl
  unfold getS
  rw [hgS]
  clear hgS
  generalize gN 1099511627776 (b,0)=gn at *
  refine af ?_
  refine aa rfl ?_
  refine a9 [.int .i64 gn.1,.sl .nil 0 [],.sl .nil 0 []] rfl ?_
  rw [aH]
  obtain ⟨q,hq⟩:∃ q,q=G.length:=⟨_,rfl⟩
  have hq1:1<q:=by rw [hq]; exact hr.lt
  have k5:hget (G++[sobj gn.1 (.pv (.sl .nil 0 [])) (.pv (.sl .nil 0 []))]) q=sobj gn.1 (.pv (.sl .nil 0 [])) (.pv (.sl .nil 0 [])):=by rw [hq]; exact ak G _
  replace hr:=hr.app [sobj gn.1 (.pv (.sl .nil 0 [])) (.pv (.sl .nil 0 []))]
  replace k2:=(aA [sobj gn.1 (.pv (.sl .nil 0 [])) (.pv (.sl .nil 0 []))] (ap k2 ((by intro h; cases h)))).trans k2
  rw [←hq]
  show Has (callSK _ _ _ (G++[sobj gn.1 (.pv (.sl .nil 0 [])) (.pv (.sl .nil 0 []))]) _) _
  generalize G++[sobj gn.1 (.pv (.sl .nil 0 [])) (.pv (.sl .nil 0 []))]=G at hr k2 k5 ⊢
  clear hk
  refine am ((num_rd hr 16 (by decide)).mono fun z hz=>?_)
  ((try clear hr); (try clear hk); obtain ⟨v',G⟩:=z; obtain ⟨rfl,hr,hk⟩:=hz; dsimp only at hr hk ⊢)
  replace k2:=hk.obj (by omega) k2 ((by intro h; cases h))
  replace k5:=hk.obj (by omega) k5 ((by intro h; cases h))
  clear hk
  have hk16:=gN_le 16 gn.2
  generalize gN 16 gn.2=gk at *
  refine aw ?_
  refine aC (σ:=Nat × AV × Heap) (fun t=>gk.1-t.1) (fun t=>[(2,.ptr 0 0),(4,.ptr 1 0),(5,.ptr q 0),(15,.pv (.int .i64 gk.1)),(16,.pv (.int .i64 t.1))]) (fun t=>t.2.2)
   (fun t=>t.1≤gk.1∧RD t.2.2 1 (gEs gk.2 t.1).2∧hget t.2.2 0 = .pcells ([.int .i64 0,.sl .nil 0 [],.sl .nil 0 []])∧hget t.2.2 q=sobj gn.1 t.2.1 (.pv (.sl .nil 0 []))∧AppV t.2.2 t.2.1 .nil 10 t.1 (flat en (gEs gk.2 t.1).1)∧TokGe 2 t.2.1)
   (fun ⟨i,v,G⟩ ⟨hi,hr,k2,k5,hv,hgv⟩ r'=>?_) (0,.pv (.sl .nil 0 []),G) ⟨Nat.zero_le _,hr,k2,k5,AppV.new rfl,fun t e=>by cases e⟩ ⟨rfl,rfl,rfl,rfl,rfl,trivial⟩ rfl
  dsimp only at hi hr k2 k5 hv hgv ⊢
  refine ah (fun hc=>?_) (fun hc=>?_)
  ·have hc':i+1≤gk.1:=by omega
   have k5o:=k5
   rcases formsG hv with ⟨hz,hcs,rfl⟩ | ⟨hz,t,rfl⟩
   all_goals
    refine a8 _ k5 ?_
    first
     | refine ab rfl ?_
     | skip
    refine am ((ent_rd hr).mono fun z hz=>?_)
    clear hr
    obtain ⟨u,G1⟩:=z
    obtain ⟨hu,hr,hk⟩:=hz
    dsimp only at hu hr hk ⊢
    replace k2:=hk.obj (by omega) k2 ((by intro h; cases h))
    replace k5:=hk.obj (by omega) k5 ((by intro h; cases h))
    have hv1:=AppV.kr hv hk hgv (by decide)
    have hnext:gEs gk.2 (i+1)=((gEs gk.2 i).1++[(gE (gEs gk.2 i).2).1],(gE (gEs gk.2 i).2).2):=rfl
    generalize gE (gEs gk.2 i).2=ge at *
    rcases hu with rfl | ⟨hdx,hax,t1,t2,rfl⟩
    all_goals
     have hnew:(en ge.1).length=1*10:=rfl
     first
      | refine app_has (m:=1) (new:=en ge.1) hv1 hnew (by show (i+1)*128≤140737488355328; omega) (fun v2 G2 hv2 hf ht=>?_)
      | (have hen:en ge.1=[sv ge.1.d.name,.int .i64 ge.1.d.prio,.int .i64 ge.1.d.pol,.sl .nn ge.1.d.l.length (flat ct ge.1.d.l),sv ge.1.a.name,.int .i64 ge.1.a.prio,.int .i64 ge.1.a.pol,.sl .nn ge.1.a.l.length (flat ct ge.1.a.l),.int .i64 ge.1.age,.int .i64 ge.1.due]:=by
          unfold en pdc; rw [hdx,hax]; rfl
         refine app_has (m:=1) (new:=[sv ge.1.d.name,.int .i64 ge.1.d.prio,.int .i64 ge.1.d.pol,.sl .nn ge.1.d.l.length (flat ct ge.1.d.l),sv ge.1.a.name,.int .i64 ge.1.a.prio,.int .i64 ge.1.a.pol,.sl .nn ge.1.a.l.length (flat ct ge.1.a.l),.int .i64 ge.1.age,.int .i64 ge.1.due]) hv1 rfl (by show (i+1)*128≤140737488355328; omega) (fun v2 G2 hv2 hf ht=>?_)
         rw [←hen] at hv2)
     have k2':=Fr.obj hv1 hf k2 ((by intro h; cases h)) ((fun _ _ h=>by cases h))
     have k5':=Fr.obj hv1 hf k5 aX.1 aX.2
     have hr':=hr.fr hf hgv (by decide)
     have hgv':=hgv.app (Nat.le_trans (by omega) (Nat.succ_le_of_lt (ap k5 aX.1))) ht
     have hql:=ap k5' aX.1
     rcases formsG hv2 with ⟨hz3,_⟩ | ⟨hz3,t3,rfl⟩
     ·omega
     refine a8 _ k5' ?_
     refine bq (by rw [k5o,k5]) (by rw [k5o]; rfl) ?_
     refine a9 _ (aq (by omega)) ?_
     refine Has.intro ⟨(i+1,.tsl t3 (i+1) (flat en (gEs gk.2 i).1++en ge.1),hset G2 q (sobj gn.1 (.tsl t3 (i+1) (flat en (gEs gk.2 i).1++en ge.1)) (.pv (.sl .nil 0 [])))),⟨hc',?_,?_,?_,?_,?_⟩,(by dsimp only; omega),⟨rfl,rfl,rfl,rfl,rfl,trivial⟩,rfl⟩
     ·dsimp only; rw [hnext]; exact hr'.set _ (by omega)
     ·exact (an _ _ (by omega)).trans k2'
     ·exact ai _ hql
     ·dsimp only; rw [hnext,←flat_snoc]; exact b9 hv2 _ k5' aX.2
     ·exact fun t e=>hgv' t e
  have hik:i=gk.1:=by omega
  subst hik
  refine Has.intro ?_
  have hEl:=gEs_len gk.2 gk.1
  have hEs:=gEs_small gk.2 (by have:=(show RD _ 1 gk.2 from ‹_›).2; omega) gk.1
  generalize gEs gk.2 gk.1=ge at *
  obtain ⟨E,r4⟩:=ge
  dsimp only at hr hv hEl hEs ⊢
  refine am ((num_rd hr 192 (by decide)).mono fun z hz=>?_)
  clear hr
  obtain ⟨v',G'⟩:=z
  obtain ⟨rfl,hr,hk⟩:=hz
  dsimp only at hr hk ⊢
  replace k2:=hk.obj (by omega) k2 ((by intro h; cases h))
  replace k5:=hk.obj (by omega) k5 aX.1
  replace hv:=AppV.kr hv hk hgv (by decide)
  clear hk
  have hm192:=gN_le 192 r4
  generalize gN 192 r4=gm at *
  refine aw ?_
  refine aC (σ:=Nat × AV × Heap) (fun t=>gm.1-t.1) (fun t=>[(2,.ptr 0 0),(4,.ptr 1 0),(5,.ptr q 0),(27,.pv (.int .i64 gm.1)),(28,.pv (.int .i64 t.1))]) (fun t=>t.2.2)
   (fun t=>t.1≤gm.1∧RD t.2.2 1 (gHs gm.2 t.1).2∧hget t.2.2 0 = .pcells ([.int .i64 0,.sl .nil 0 [],.sl .nil 0 []])∧hget t.2.2 q=sobj gn.1 v t.2.1∧AppV t.2.2 v .nil 10 gk.1 (flat en E)∧AppV t.2.2 t.2.1 .nil 11 t.1 (flat hoc (gHs gm.2 t.1).1)∧(tokOf v=none∨tokOf v≠tokOf t.2.1)∧TokGe 2 t.2.1)
   (fun ⟨i,w,G⟩ ⟨hi,hr,k2,k5,hv,hw,hd,hgw⟩ r'=>?_) (0,.pv (.sl .nil 0 []),G') ⟨Nat.zero_le _,hr,k2,k5,hv,AppV.new rfl,?_,fun t e=>by cases e⟩ ⟨rfl,rfl,rfl,rfl,rfl,trivial⟩ rfl
  rotate_left
  ·cases hh:tokOf v with
   | none=>exact .inl rfl
   | some t=>exact .inr (by intro e; cases e)
  dsimp only at hi hr k2 k5 hv hw hd hgw ⊢
  refine ah (fun hc=>?_) (fun hc=>?_)
  ·have hc':i+1≤gm.1:=by omega
   have hnext:gHs gm.2 (i+1)=((gHs gm.2 i).1++[(gH (gHs gm.2 i).2).1],(gH (gHs gm.2 i).2).2):=rfl
   refine am ((rtxt_rd hr).mono fun z hz=>?_)
   clear hr
   obtain ⟨v',G1⟩:=z
   obtain ⟨rfl,hr,hk⟩:=hz
   dsimp only at hr hk ⊢
   replace k2:=hk.obj (by omega) k2 ((by intro h; cases h))
   replace k5:=hk.obj (by omega) k5 aX.1
   replace hv:=AppV.kr hv hk hgv (by decide)
   replace hw:=AppV.kr hw hk hgw (by decide)
   clear hk
   refine am ((rtxt_rd hr).mono fun z hz=>?_)
   clear hr
   obtain ⟨v',G2⟩:=z
   obtain ⟨rfl,hr,hk⟩:=hz
   dsimp only at hr hk ⊢
   replace k2:=hk.obj (by omega) k2 ((by intro h; cases h))
   replace k5:=hk.obj (by omega) k5 aX.1
   replace hv:=AppV.kr hv hk hgv (by decide)
   replace hw:=AppV.kr hw hk hgw (by decide)
   clear hk
   refine am ((num_rd hr 1 (by decide)).mono fun z hz=>?_)
   clear hr
   obtain ⟨v',G3⟩:=z
   obtain ⟨rfl,hr,hk⟩:=hz
   dsimp only at hr hk ⊢
   replace k2:=hk.obj (by omega) k2 ((by intro h; cases h))
   replace k5:=hk.obj (by omega) k5 aX.1
   replace hv:=AppV.kr hv hk hgv (by decide)
   replace hw:=AppV.kr hw hk hgw (by decide)
   clear hk
   have hgH:gH (gHs gm.2 i).2=(⟨⟨(gT 16 (gHs gm.2 i).2).1,(gT 16 (gT 16 (gHs gm.2 i).2).2).1,(gN 1 (gT 16 (gT 16 (gHs gm.2 i).2).2).2).1⟩,(gI (gN 1 (gT 16 (gT 16 (gHs gm.2 i).2).2).2).2 8).1⟩,(gI (gN 1 (gT 16 (gT 16 (gHs gm.2 i).2).2).2).2 8).2):=rfl
   generalize hO:(⟨(gT 16 (gHs gm.2 i).2).1,(gT 16 (gT 16 (gHs gm.2 i).2).2).1,((gN 1 (gT 16 (gT 16 (gHs gm.2 i).2).2).2).1:Nat)⟩:Ow)=o at hgH
   refine af ?_
   refine aa rfl ?_
   refine a9 (hoc ⟨o,z8⟩) (by rw [←hO]; rfl) ?_
   rw [aH]
   clear hO
   generalize (gN 1 (gT 16 (gT 16 (gHs gm.2 i).2).2).2).2=r5 at *
   obtain ⟨q6,hq6⟩:∃ q,q=G3.length:=⟨_,rfl⟩
   have hq56:q<q6:=by rw [hq6]; exact ap k5 aX.1
   have k6:hget (G3++[.pcells (hoc ⟨o,z8⟩)]) q6 = .pcells (hoc ⟨o,z8⟩):=by rw [hq6]; exact ak G3 _
   replace hr:=hr.app [.pcells (hoc ⟨o,z8⟩)]
   replace k2:=(aA [.pcells (hoc ⟨o,z8⟩)] (ap k2 ((by intro h; cases h)))).trans k2
   replace k5:=(aA [.pcells (hoc ⟨o,z8⟩)] (ap k5 aX.1)).trans k5
   replace hv:=AppV_grow hv [.pcells (hoc ⟨o,z8⟩)]
   replace hw:=AppV_grow hw [.pcells (hoc ⟨o,z8⟩)]
   rw [←hq6]
   generalize G3++[.pcells (hoc ⟨o,z8⟩)]=G4 at *
   refine aw ?_
   refine aC (σ:=Nat × Heap) (fun t=>8-t.1) (fun t=>[(2,.ptr 0 0),(4,.ptr 1 0),(5,.ptr q 0),(6,.ptr q6 0),(27,.pv (.int .i64 gm.1)),(28,.pv (.int .i64 i)),(38,.pv (.int .i64 t.1))]) (fun t=>t.2)
    (fun t=>t.1≤8∧RD t.2 1 (gI r5 t.1).2∧hget t.2 0 = .pcells ([.int .i64 0,.sl .nil 0 [],.sl .nil 0 []])∧hget t.2 q=sobj gn.1 v w∧hget t.2 q6 = .pcells (hoc ⟨o,(gI r5 t.1).1⟩)∧AppV t.2 v .nil 10 gk.1 (flat en E)∧AppV t.2 w .nil 11 i (flat hoc (gHs gm.2 i).1))
    (fun ⟨j,G⟩ ⟨hj,hr,k2,k5,k6,hv,hw⟩ r'=>?_) (0,G4) ⟨Nat.zero_le _,hr,k2,k5,k6,hv,hw⟩ ⟨rfl,rfl,rfl,rfl,rfl,rfl,rfl,trivial⟩ rfl
   dsimp only at hj hr k2 k5 k6 hv hw ⊢
   refine ah (fun hc2=>?_) (fun hc2=>?_)
   ·refine am ((num_rd hr 1073741824 (by decide)).mono fun z hz=>?_)
    clear hr
    obtain ⟨v',G1⟩:=z
    obtain ⟨rfl,hr,hk⟩:=hz
    dsimp only at hr hk ⊢
    replace k2:=hk.obj (by omega) k2 ((by intro h; cases h))
    replace k5:=hk.obj (by omega) k5 aX.1
    replace k6:=hk.obj (by omega) k6 ((by intro h; cases h))
    replace hv:=AppV.kr hv hk hgv (by decide)
    replace hw:=AppV.kr hw hk hgw (by decide)
    have hl6:=ap k6 ((by intro h; cases h))
    refine aa (by (first | rfl | (simp; done) | (simp; omega))) ?_
    refine a8 _ k6 ?_
    refine aa (hoc_idx (gI_len r5 j) (by omega)) ?_
    refine a9 _ (hoc_set _ _ _ _) ?_
    refine a9 _ (aq (by omega)) ?_
    exact Has.intro ⟨(j+1,_),⟨by omega,hr.set _ (by omega),(an _ _ (by omega)).trans k2,(an _ _ (by omega)).trans k5,ai _ hl6,b9 hv _ k6 ((fun _ _ h=>by cases h)),b9 hw _ k6 ((fun _ _ h=>by cases h))⟩,(by dsimp only; omega),⟨rfl,rfl,rfl,rfl,rfl,rfl,rfl,trivial⟩,rfl⟩
   have hj8:j=8:=by omega
   subst hj8
   have hl8:=gI_len r5 8
   have hgH1:gH (gHs gm.2 i).2=(⟨o,(gI r5 8).1⟩,(gI r5 8).2):=hgH
   rw [hgH1] at hnext
   generalize gI r5 8=g8 at *
   obtain ⟨sp,r8⟩:=g8
   dsimp only at hl8 hr k6 hnext ⊢
   obtain ⟨a0,a1,a2,a3,a4,a5,a6,a7,rfl⟩:=eight hl8
   refine Has.intro ?_
   rcases formsG hv with ⟨hz,hcs,hve⟩ | ⟨hz,t,hve⟩
   all_goals
    rcases formsG hw with ⟨hz2,hcs2,hwe⟩ | ⟨hz2,t2,hwe⟩
   all_goals
    have k5l:=k5
    have hwl:=hw
    rw [hve,hwe] at k5l
    rw [hwe] at hwl
    refine a8 _ k5l ?_
    first
     | refine ab rfl ?_
     | skip
    refine a8 _ k6 ?_
    refine ae (v:=hoc ⟨o,[a0,a1,a2,a3,a4,a5,a6,a7]⟩) rfl (of_decide_eq_true rfl) ?_
    refine app_has (m:=1) (new:=hoc ⟨o,[a0,a1,a2,a3,a4,a5,a6,a7]⟩) hwl rfl (by show (i+1)*104≤140737488355328; omega) (fun w2 G2 hw2 hf ht=>?_)
    rw [←hwe] at hf ht
    obtain ⟨hv2,hd2⟩:=app_other hv hd hf ht
    have k2':=Fr.obj hw hf k2 ((by intro h; cases h)) ((fun _ _ h=>by cases h))
    have k5':=Fr.obj hw hf k5 aX.1 aX.2
    have hr':=hr.fr hf hgw (by decide)
    have hgw':=hgw.app (Nat.le_trans (by omega) (Nat.succ_le_of_lt (ap k5 aX.1))) ht
    have hql:=ap k5' aX.1
    rcases formsG hw2 with ⟨hz3,_⟩ | ⟨hz3,t3,rfl⟩
    ·omega
    have k5'l:=k5'
    rw [hve,hwe] at k5'l
    refine a8 _ k5'l ?_
    refine a9 _ (aq (by omega)) ?_
    refine Has.intro ⟨(i+1,.tsl t3 (i+1) (flat hoc (gHs gm.2 i).1++hoc ⟨o,[a0,a1,a2,a3,a4,a5,a6,a7]⟩),hset G2 q (sobj gn.1 v (.tsl t3 (i+1) (flat hoc (gHs gm.2 i).1++hoc ⟨o,[a0,a1,a2,a3,a4,a5,a6,a7]⟩)))),⟨hc',?_,?_,?_,?_,?_,?_,?_⟩,(by dsimp only; omega),⟨rfl,rfl,rfl,rfl,rfl,trivial⟩,?_⟩
    ·dsimp only; rw [hnext]; exact hr'.set _ (by omega)
    ·exact (an _ _ (by omega)).trans k2'
    ·exact ai _ hql
    ·exact b9 hv2 _ k5' aX.2
    ·dsimp only; rw [hnext,←flat_snoc]; exact b9 hw2 _ k5' aX.2
    ·exact hd2
    ·exact fun t e=>hgw' t e
    ·rw [hve]; rfl
  have him:i=gm.1:=by omega
  subst him
  have hHl:=gHs_len gm.2 gm.1
  have hH8:=gHs_eight gm.2 gm.1
  generalize gHs gm.2 gm.1=gh at *
  obtain ⟨Hs,r9⟩:=gh
  dsimp only at hr hw hHl hH8 ⊢
  have hsm:smallS ⟨gn.1,E,Hs⟩:=⟨by show E.length≤maxLen; rw [hEl]; exact ml (by omega),by show Hs.length≤maxLen; rw [hHl]; exact ml (by omega),hEs,hH8⟩
  refine Has.intro ?_
  obtain ⟨⟨xr,hxr⟩,hrb⟩:=id hr
  refine am ((T.end_ok 1 xr r9.1 r9.2 G hxr).mono fun z hz=>?_)
  obtain ⟨v',G1⟩:=z
  obtain ⟨rfl,ob,hob⟩:=hz
  dsimp only at hob ⊢
  subst hob
  replace k2:=(an G (i:=1) ob (by omega:(0:Nat)≠1)).trans k2
  replace k5:=(an G (i:=1) ob (by omega:q≠1)).trans k5
  generalize hset G 1 ob=G1 at k2 k5 ⊢
  generalize T.rEnd r9.1 r9.2=er at *
  have h0l:=ap k2 ((by intro h; cases h))
  refine aO (fun he=>?_) (fun he=>?_)
  ·rw [if_pos he]
   refine a8 _ k2 ?_
   refine aa rfl ?_
   refine a9 ([.int .i64 0,.sl .nil 0 [],.sl .nil 0 []]) rfl ?_
   refine a8 _ (ai _ h0l) ?_
   refine ae (v:=([.int .i64 0,.sl .nil 0 [],.sl .nil 0 []])) rfl (of_decide_eq_true rfl) ?_
   exact Has.intro (Has.intro ⟨.nil,.nil,rfl⟩)
  rw [if_neg (fun h=>h he)]
  rcases formsG hv with ⟨hz,hcs,hve⟩ | ⟨hz,t,hve⟩
  all_goals
   rcases formsG hw with ⟨hz2,hcs2,hwe⟩ | ⟨hz2,t2,hwe⟩
  all_goals
   rw [hve,hwe] at k5
   first
    | rw [←hEl] at k5
    | skip
   first
    | rw [←hHl] at k5
    | skip
   refine a8 _ k5 ?_
   first
    | refine ae (v:=[.int .i64 gn.1,.sl .nil 0 [],.sl .nil 0 []]) rfl (of_decide_eq_true rfl) ?_
    | skip
   have hzl:E.length=gk.1:=hEl
   have hzl2:Hs.length=gm.1:=hHl
   first
    | (have hE0:E=[]:=List.eq_nil_of_length_eq_zero (by omega)
       subst hE0)
    | skip
   first
    | (have hH0:Hs=[]:=List.eq_nil_of_length_eq_zero (by omega)
       subst hH0)
    | skip
   first
    | rw [←hzl]
    | skip
   first
    | rw [←hzl2]
    | skip
   first
    | refine aI (right_ok' ⟨gn.1,[],[]⟩ .nil .nil hsm) (fun hR=>?_) (fun hR=>?_)
    | refine aI (right_ok' ⟨gn.1,[],Hs⟩ .nil .nn hsm) (fun hR=>?_) (fun hR=>?_)
    | refine aI (right_ok' ⟨gn.1,E,[]⟩ .nn .nil hsm) (fun hR=>?_) (fun hR=>?_)
    | refine aI (right_ok' ⟨gn.1,E,Hs⟩ .nn .nn hsm) (fun hR=>?_) (fun hR=>?_)
  all_goals first
   | (rw [if_pos hR]
      refine a8 _ k5 ?_
      first
       | refine ae (v:=[.int .i64 gn.1,.sl .nil 0 [],.sl .nil 0 []]) rfl (of_decide_eq_true rfl) ?_
       | skip
      refine a8 _ k2 ?_
      first
       | (refine aa rfl ?_
          refine a9 [.int .i64 gn.1,.sl .nil 0 [],.sl .nil 0 []] rfl ?_)
       | skip
      refine a8 _ (ai _ h0l) ?_
      first
       | refine ae (v:=[.int .i64 gn.1,.sl .nil 0 [],.sl .nil 0 []]) rfl (of_decide_eq_true rfl) ?_
       | skip
      first
       | exact Has.intro (Has.intro ⟨.nil,.nil,rfl⟩)
       | exact Has.intro (Has.intro ⟨.nil,.nn,rfl⟩)
       | exact Has.intro (Has.intro ⟨.nn,.nil,rfl⟩)
       | exact Has.intro (Has.intro ⟨.nn,.nn,rfl⟩))
   | (rw [if_neg hR]
      refine a8 _ k2 ?_
      refine aa rfl ?_
      refine a9 ([.int .i64 0,.sl .nil 0 [],.sl .nil 0 []]) rfl ?_
      refine a8 _ (ai _ h0l) ?_
      refine ae (v:=([.int .i64 0,.sl .nil 0 [],.sl .nil 0 []])) rfl (of_decide_eq_true rfl) ?_
      exact Has.intro (Has.intro ⟨.nil,.nil,rfl⟩))
 obtain ⟨u,h1,x',y',h2⟩:=main
 exact ⟨x',y',by rw [h1,h2]⟩
end Go.Proofs.YtflfdglnelbbiaaGreat
namespace Go.Proofs.YtflfdglnelbbiaaGreat
open Go Go.VM
theorem fN {m u:Nat} (hm:u≤m) (hu:m<18446744073709551616) (rest:List UInt8):gN m (T.enc u++rest,0)=(u,(rest,0)):=T.rNum_enc (by omega) rest m hm
theorem fNum {m:Nat} {n:Int} (h0:0≤n) (hm:n≤(m:Int)) (hu:m<18446744073709551616) (rest:List UInt8):gN m (num n++rest,0)=(n.toNat,(rest,0)):=fN (by omega) hu rest
theorem fT {l:List UInt8} (h:l.length≤16) (rest:List UInt8):gT 16 (txt l++rest,0)=(l,(rest,0)):=by
 show T.rTxt (T.enc l.length++l++rest) 0 16=_
 unfold T.rTxt
 rw [List.append_assoc,T.rNum_enc (by omega) (l++rest) T.maxU (by rw [T.maxU_eq]; omega)]
 dsimp only
 rw [if_neg (by simp),if_neg (by omega),if_neg (by rw [List.length_append]; omega),List.take_left,List.drop_left]
theorem fS {n:Int} (h0 : -1000≤n) (h1:n≤1000) (rest:List UInt8):gS (T.enc (T.zn n)++rest,0)=(n,(rest,0)):=by
 obtain ⟨g1,g2⟩:=T.zn_lt (n:=n) (by omega) (by omega)
 show T.rSig (T.enc (T.zn n)++rest) 0 (-1000) 1000=_
 unfold T.rSig
 rw [T.rNum_enc g1 rest T.maxU (by rw [T.maxU_eq]; omega)]
 dsimp only
 rw [g2,T.zag_zig,if_neg (by simp),if_neg (by omega)]
theorem fF (b:Bool) (rest:List UInt8):gF (flg b++rest,0)=(b,(rest,0)):=T.rFlg_enc b rest
theorem fV {v:Vc} (h:vR v) (rest:List UInt8):gV (vecB v++rest,0)=(v,(rest,0)):=by
 have e:vecB v++rest=num v.c++(num v.m++(num v.h++rest)):=by simp [vecB,catB,vl3]
 obtain ⟨⟨a1,a2⟩,⟨b1,b2⟩,⟨c1,c2⟩,_⟩:=h
 unfold gV
 rw [e,fNum a1 a2 (by decide)]
 dsimp only
 rw [fNum b1 b2 (by decide)]
 dsimp only
 rw [fNum c1 c2 (by decide)]
 dsimp only
 rw [Int.toNat_of_nonneg a1,Int.toNat_of_nonneg b1,Int.toNat_of_nonneg c1]
theorem fFs (c:Ct) (rest:List UInt8):gFs (catB flg (fl3 c)++rest,0)=((c.r0,c.r1,c.r2),(rest,0)):=by
 have e:catB flg (fl3 c)++rest=flg c.r0++(flg c.r1++(flg c.r2++rest)):=by simp [catB,fl3]
 unfold gFs
 rw [e,fF]
 dsimp only
 rw [fF]
 dsimp only
 rw [fF]
theorem fC {c d:Ct} (h1:cP c) (h2:cP d) (hk:kinC c d) (rest:List UInt8):gC (ctB (c,d)++rest,0)=((c,d),(rest,0)):=by
 have e:ctB (c,d)++rest=txt c.name++(catB flg (fl3 c)++(vecB c.rq++(vecB c.lm++(vecB d.rq++(vecB d.lm++rest))))):=by simp [ctB,catB]
 have hn:=nameB_len h1.1
 unfold gC
 rw [e,fT (by omega)]
 dsimp only
 rw [fFs]
 dsimp only
 rw [fV h1.2.1]
 dsimp only
 rw [fV h1.2.2.1]
 dsimp only
 rw [fV h2.2.1]
 dsimp only
 rw [fV h2.2.2.1]
 dsimp only
 obtain ⟨k1,k2,k3,k4⟩:=hk
 rw [k1,k2,k3,k4]
 obtain ⟨a1,a2,a3,a4,a5,a6⟩:=c
 obtain ⟨b1,b2,b3,b4,b5,b6⟩:=d
 dsimp only at k1 k2 k3 k4 ⊢
 subst k1; subst k2; subst k3; subst k4
 rfl
theorem drop_catB {α:Type} (f:α→List UInt8) {l:List α} {i:Nat} {a:α} (h:l[i]? = some a):catB f (l.drop i)=f a++catB f (l.drop (i+1)):=by
 rw [drop_of h,catB_cons]
theorem fCs {l:List (Ct × Ct)} (h:∀ x∈l,cP x.1∧cP x.2∧kinC x.1 x.2) (rest:List UInt8):∀ i,i≤l.length→gCs (catB ctB l++rest,0) i=(l.take i,(catB ctB (l.drop i)++rest,0))
 | 0,_=>rfl
 | i+1,hi=>by
   obtain ⟨a,ha⟩:∃ c,l[i]? = some c:=⟨_,List.getElem?_eq_getElem (by omega)⟩
   obtain ⟨g1,g2,g3⟩:=h a (List.mem_of_getElem? ha)
   show ((gCs _ i).1++[(gC (gCs _ i).2).1],(gC (gCs _ i).2).2)=_
   rw [fCs h rest i (by omega)]
   dsimp only
   rw [drop_catB ctB ha,List.append_assoc,fC g1 g2 g3,List.take_add_one,ha]
   rfl
def normE (e:En):En:={ e with dx:=xk e.d.l.length,ax:=xk e.d.l.length }
def normS (s:St):St:={ s with es:=s.es.map normE }
theorem zip_kin {e:En} (h:entP e):∀ x∈e.d.l.zip e.a.l,cP x.1∧cP x.2∧kinC x.1 x.2:=by
 intro x hx
 obtain ⟨h1,h2⟩:=zip_cP h x hx
 obtain ⟨i,hi⟩:=List.getElem?_of_mem hx
 rw [List.getElem?_zip_eq_some] at hi
 exact ⟨h1,h2,h.2.2.1.2.2.2.2 i _ _ hi.1 hi.2⟩
theorem fE {e:En} (h:entP e) (rest:List UInt8):gE (entB e++rest,0)=(normE e,(rest,0)):=by
 have eb:entB e++rest=txt e.d.name++(T.enc (T.zn e.d.prio)++(num e.d.pol++(T.enc e.d.l.length++(catB ctB (e.d.l.zip e.a.l)++(num e.age++(num e.due++rest)))))):=by simp [entB]
 have pn:=pod_names h.1
 have hll:e.d.l.length=e.a.l.length:=h.2.2.1.2.2.2.1
 have hd:=due_le h
 obtain ⟨hd1,_,_,_,hage,hdue,_⟩:=id h
 have hz:=fCs (zip_kin h) (num e.age++(num e.due++rest)) e.d.l.length (by rw [List.length_zip]; omega)
 rw [List.take_of_length_le (by rw [List.length_zip]; omega),List.drop_of_length_le (by rw [List.length_zip]; omega)] at hz
 unfold gE
 rw [eb,fT pn.1]
 dsimp only
 rw [fS (by have:=hd1.2.1; omega) (by have:=hd1.2.1; omega)]
 dsimp only
 rw [fNum (by have:=hd1.2.2.1; omega) (by have:=hd1.2.2.1; omega) (by decide)]
 dsimp only
 rw [fN (by omega) (by decide)]
 dsimp only
 rw [hz]
 dsimp only
 rw [catB_nil,List.nil_append,fNum (by omega) (by omega) (by decide)]
 dsimp only
 rw [fNum (by omega) (by omega) (by decide)]
 dsimp only
 rw [Int.toNat_of_nonneg (show 0≤e.d.pol by have:=hd1.2.2.1; omega),Int.toNat_of_nonneg hage.1,Int.toNat_of_nonneg hdue]
 have m1:(e.d.l.zip e.a.l).map (·.1)=e.d.l:=List.map_fst_zip (by omega)
 have m2:(e.d.l.zip e.a.l).map (·.2)=e.a.l:=List.map_snd_zip (by omega)
 rw [m1,m2]
 obtain ⟨k1,k2,k3,_⟩:=h.2.2.1
 unfold normE
 obtain ⟨⟨d1,d2,d3,d4⟩,⟨a1,a2,a3,a4⟩,dx,ax,ag,du⟩:=e
 dsimp only at k1 k2 k3 ⊢
 subst k1; subst k2; subst k3
 rfl
theorem fEs {l:List En} (h:∀ x∈l,entP x) (rest:List UInt8):∀ i,i≤l.length→gEs (catB entB l++rest,0) i=((l.map normE).take i,(catB entB (l.drop i)++rest,0))
 | 0,_=>rfl
 | i+1,hi=>by
   obtain ⟨a,ha⟩:∃ c,l[i]? = some c:=⟨_,List.getElem?_eq_getElem (by omega)⟩
   show ((gEs _ i).1++[(gE (gEs _ i).2).1],(gE (gEs _ i).2).2)=_
   rw [fEs h rest i (by omega)]
   dsimp only
   rw [drop_catB entB ha,List.append_assoc,fE (h a (List.mem_of_getElem? ha)),List.take_add_one,List.getElem?_map,ha]
   rfl
theorem fI {l:List Int} (h8:l.length=8) (h:∀ n∈l,0≤n∧n≤1073741824) (rest:List UInt8):∀ i,i≤8→gI (catB num l++rest,0) i=(l.take i++z8.drop i,(catB num (l.drop i)++rest,0))
 | 0,_=>rfl
 | i+1,hi=>by
   obtain ⟨a,ha⟩:∃ c,l[i]? = some c:=⟨_,List.getElem?_eq_getElem (by omega)⟩
   obtain ⟨g1,g2⟩:=h a (List.mem_of_getElem? ha)
   show ((gI _ i).1.set i _,(gN 1073741824 (gI _ i).2).2)=_
   rw [fI h8 h rest i (by omega)]
   dsimp only
   rw [drop_catB num ha,List.append_assoc,fNum g1 (by omega) (by decide),List.take_add_one,ha]
   dsimp only
   rw [Int.toNat_of_nonneg g1]
   congr 1
   have hl:(l.take i).length=i:=by rw [List.length_take]; omega
   obtain ⟨z,hz⟩:∃ c,z8[i]? = some c:=⟨_,List.getElem?_eq_getElem (show i<z8.length by show i<8; omega)⟩
   rw [drop_of hz,List.set_append_right _ _ (by omega),hl,Nat.sub_self]
   simp
theorem fH {s:St} (hE:entsP s) {h:Ho} (hh:holdP s h) (h8:h.sp.length=8) (rest:List UInt8):gH (hoB h++rest,0)=(h,(rest,0)):=by
 obtain ⟨n1,n2⟩:=hold_names hE hh
 have eb:hoB h++rest=txt h.o.pod++(txt h.o.ctr++(num h.o.kind++(catB num h.sp++rest))):=by simp [hoB]
 unfold gH
 rw [eb,fT n1]
 dsimp only
 rw [fT n2]
 dsimp only
 rw [fNum hh.2.1 hh.2.2.1 (by decide)]
 dsimp only
 rw [fI h8 hh.2.2.2.2.1 rest 8 (by decide)]
 dsimp only
 rw [List.take_of_length_le (by omega),List.drop_of_length_le (show z8.length≤8 by decide),List.drop_of_length_le (by omega),Int.toNat_of_nonneg hh.2.1]
 simp [catB]
theorem fHs {s:St} (hE:entsP s) {l:List Ho} (h:∀ x∈l,holdP s x∧x.sp.length=8) (rest:List UInt8):∀ i,i≤l.length→gHs (catB hoB l++rest,0) i=(l.take i,(catB hoB (l.drop i)++rest,0))
 | 0,_=>rfl
 | i+1,hi=>by
   obtain ⟨a,ha⟩:∃ c,l[i]? = some c:=⟨_,List.getElem?_eq_getElem (by omega)⟩
   obtain ⟨g1,g2⟩:=h a (List.mem_of_getElem? ha)
   show ((gHs _ i).1++[(gH (gHs _ i).2).1],(gH (gHs _ i).2).2)=_
   rw [fHs hE h rest i (by omega)]
   dsimp only
   rw [drop_catB hoB ha,List.append_assoc,fH hE g1 g2,List.take_add_one,ha]
   rfl
theorem fSt {s:St} (hr:rightP s) (h8:∀ h∈s.hs,h.sp.length=8) (h192:s.hs.length≤192):gSt (putB s)=(normS s,([],0)):=by
 obtain ⟨r1,r2,r3,r4⟩:=hr
 have eb:putB s=num s.next++(T.enc s.es.length++(catB entB s.es++(T.enc s.hs.length++(catB hoB s.hs++[])))):=by simp [putB]
 have hE:∀ x∈s.es,entP x:=fun x hx=>by
  obtain ⟨i,hi⟩:=List.getElem?_of_mem hx
  exact (r3 i x hi).1
 have hH:∀ x∈s.hs,holdP s x∧x.sp.length=8:=fun x hx=>by
  obtain ⟨i,hi⟩:=List.getElem?_of_mem hx
  exact ⟨(r4 i x hi).1,h8 x hx⟩
 unfold gSt
 rw [eb,fNum r1.1 r1.2 (by decide)]
 dsimp only
 rw [fN r2 (by decide)]
 dsimp only
 rw [fEs hE _ s.es.length (Nat.le_refl _)]
 dsimp only
 rw [List.drop_length,catB_nil,List.nil_append,fN h192 (by decide)]
 dsimp only
 rw [fHs r3 hH [] s.hs.length (Nat.le_refl _)]
 dsimp only
 rw [List.drop_length,List.take_length,List.take_of_length_le (by simp),Int.toNat_of_nonneg r1.1]
 rfl
end Go.Proofs.YtflfdglnelbbiaaGreat
namespace Go.Proofs.YtflfdglnelbbiaaGreat
open Go Go.VM
theorem findEF_norm (name:List UInt8):∀ (l:List En) (i:Nat),findEF name i (l.map normE)=findEF name i l
 | [],_=>rfl
 | e::l,i=>by
   show (if e.d.name=name then (i:Int) else findEF name (i+1) (l.map normE))=if e.d.name=name then (i:Int) else findEF name (i+1) l
   rw [findEF_norm name l (i+1)]
theorem norm_get {l:List En} {i:Nat} {e:En} (h:(l.map normE)[i]? = some e):∃ f,l[i]? = some f∧e=normE f:=by
 rw [List.getElem?_map] at h
 cases hf:l[i]? with
 | none=>rw [hf] at h; cases h
 | some f=>rw [hf] at h; exact ⟨f,rfl,(Option.some.inj h).symm⟩
theorem right_norm {s:St} (h:rightP s):rightP (normS s):=by
 obtain ⟨r1,r2,r3,r4⟩:=h
 refine ⟨r1,by show (s.es.map normE).length≤16; rw [List.length_map]; exact r2,fun i e he=>?_,fun i h hh=>?_⟩
 ·obtain ⟨f,hf,rfl⟩:=norm_get he
  obtain ⟨a,b,c⟩:=r3 i f hf
  refine ⟨a,b,fun j g hj hg=>?_⟩
  obtain ⟨g',hg',rfl⟩:=norm_get hg
  exact c j g' hj hg'
 ·obtain ⟨⟨a,b,c,d,e,f⟩,g⟩:=r4 i h hh
  have hfe:findE h.o.pod (normS s).es=findE h.o.pod s.es:=findEF_norm _ _ 0
  refine ⟨⟨by rw [hfe]; exact a,b,c,d,e,fun k hk=>?_⟩,g⟩
  rw [hfe] at hk
  obtain ⟨k',hk',rfl⟩:=norm_get hk
  exact f k' hk'
theorem same_norm (s:St):sameS (normS s) s:=by
 refine ⟨rfl,⟨by show (s.es.map normE).length=_; rw [List.length_map],fun j c d hc hd=>?_⟩,rfl⟩
 obtain ⟨f,hf,rfl⟩:=norm_get hc
 rw [hd] at hf
 injection hf with hf
 subst hf
 exact ⟨⟨rfl,rfl,rfl,rfl⟩,⟨rfl,rfl,rfl,rfl⟩,rfl,rfl⟩
theorem ahead_trans {a b c:Ow} (h1:ahead a b=true) (h2:ahead b c=true):ahead a c=true:=by
 unfold ahead at *
 by_cases p1:a.pod=b.pod
 ·rw [if_neg (fun h=>h p1)] at h1
  by_cases p2:b.pod=c.pod
  ·rw [if_neg (fun h=>h p2)] at h2
   rw [if_neg (fun h=>h (p1.trans p2))]
   by_cases q1:a.ctr=b.ctr
   ·rw [if_neg (fun h=>h q1),decide_eq_true_eq] at h1
    by_cases q2:b.ctr=c.ctr
    ·rw [if_neg (fun h=>h q2),decide_eq_true_eq] at h2
     rw [if_neg (fun h=>h (q1.trans q2)),decide_eq_true_eq]
     omega
    ·rw [if_pos q2] at h2
     rw [q1,if_pos q2]; exact h2
   ·rw [if_pos q1] at h1
    by_cases q2:b.ctr=c.ctr
    ·rw [←q2,if_pos q1]; exact h1
    ·rw [if_pos q2] at h2
     rw [if_pos (fun e=>by rw [e] at h1; rw [lt_asym _ _ h1] at h2; cases h2)]
     exact lt_trans _ _ _ h1 h2
  ·rw [if_pos p2] at h2
   rw [p1,if_pos p2]; exact h2
 ·rw [if_pos p1] at h1
  by_cases p2:b.pod=c.pod
  ·rw [←p2,if_pos p1]; exact h1
  ·rw [if_pos p2] at h2
   rw [if_pos (fun e=>by rw [e] at h1; rw [lt_asym _ _ h1] at h2; cases h2)]
   exact lt_trans _ _ _ h1 h2
theorem ahead_irr (a:Ow):ahead a a=false:=by unfold ahead; simp
theorem nodup_lt:∀ (n:Nat) (l:List Nat),l.Nodup→(∀ x∈l,x<n)→l.length≤n
 | 0,l,_,h=>by
   cases l with
   | nil=>exact Nat.le_refl _
   | cons a l=>have:=h a (by simp); omega
 | n+1,l,hd,h=>by
   by_cases hn:n∈l
   ·have h1:=nodup_lt n (l.erase n) (hd.erase n) (fun x hx=>by
     have:=(hd.mem_erase_iff).1 hx
     have:=h x this.2
     omega)
    rw [List.length_erase_of_mem hn] at h1
    omega
   ·have:=nodup_lt n l hd (fun x hx=>by
     have:=h x hx
     have:x≠n:=fun e=>hn (e▸hx)
     omega)
    omega
def cd (s:St) (o:Ow):Nat:=(findE o.pod s.es).toNat*12+(findI o.ctr (((s.es[(findE o.pod s.es).toNat]?).map (·.d.l)).getD [])).toNat*2+o.kind.toNat
theorem findF_name {name:List UInt8}:∀ (l:List Ct) (i k:Nat) (e:Ct),findF name i l=((i+k:Nat):Int)→l[k]? = some e→e.name=name
 | [],i,k,e,_,h=>by simp at h
 | d::l,i,k,e,h,hg=>by
   unfold findF at h
   split at h
   ·rename_i hd
    have:k=0:=by omega
    subst this
    simp at hg; subst hg; exact hd
   ·cases k with
    | zero=>
      rcases findF_range (name:=name) l (i+1) with g | ⟨g,_⟩
      ·omega
      ·omega
    | succ k=>exact findF_name l (i+1) k e (by rw [h]; omega) (by simpa using hg)
theorem cd_of {s:St} (hE:entsP s) (h16:s.es.length≤16) {h:Ho} (hh:holdP s h):∃ (k m:Nat) (e:En) (c:Ct),cd s h.o=k*12+m*2+h.o.kind.toNat∧k<16∧m<6∧s.es[k]? = some e∧e.d.name=h.o.pod∧e.d.l[m]? = some c∧c.name=h.o.ctr:=by
 obtain ⟨k,e,hk,hg,hkl⟩:=findE_get hh.1
 have hp:=pod_names (hE k e hg).1.1
 have hn:=findEF_name s.es 0 k e (by rw [Nat.zero_add]; exact hk) hg
 have hc:=hh.2.2.2.2.2 e (by rw [hk]; exact hg)
 have e1:findI h.o.ctr e.d.l=findF h.o.ctr 0 e.d.l:=rfl
 rcases findF_range (name:=h.o.ctr) e.d.l 0 with g | ⟨g1,g2,_⟩
 ·omega
 ·have hm:(findI h.o.ctr e.d.l).toNat<e.d.l.length:=by omega
  refine ⟨k,(findI h.o.ctr e.d.l).toNat,e,e.d.l[(findI h.o.ctr e.d.l).toNat],?_,by omega,by omega,hg,hn,List.getElem?_eq_getElem hm,findF_name e.d.l 0 _ _ (by omega) (List.getElem?_eq_getElem hm)⟩
  unfold cd
  rw [hk,Int.toNat_natCast,hg]
  rfl
theorem hs_192 {s:St} (h:rightP s):s.hs.length≤192:=by
 obtain ⟨r1,r2,r3,r4⟩:=h
 have hH:∀ x∈s.hs,holdP s x:=fun x hx=>by
  obtain ⟨i,hi⟩:=List.getElem?_of_mem hx
  exact (r4 i x hi).1
 have chain:∀ (d i:Nat) (a b:Ho),s.hs[i]? = some a→s.hs[i+d+1]? = some b→ahead a.o b.o=true:=by
  intro d
  induction d with
  | zero=>intro i a b ha hb; exact (r4 (i+0+1) b hb).2 a (by omega) (by rw [show i+0+1-1=i by omega]; exact ha)
  | succ d ih=>
    intro i a b ha hb
    obtain ⟨c,hc⟩:∃ c,s.hs[i+d+1]? = some c:=⟨_,List.getElem?_eq_getElem (by have:=(List.getElem?_eq_some_iff.1 hb).1; omega)⟩
    exact ahead_trans (ih i a c ha hc) ((r4 (i+(d+1)+1) b hb).2 c (by omega) (by rw [show i+(d+1)+1-1=i+d+1 by omega]; exact hc))
 have hnd:(s.hs.map fun h=>cd s h.o).Nodup:=by
  rw [List.nodup_iff_pairwise_ne,List.pairwise_map,List.pairwise_iff_getElem]
  intro i j hi hj hij e
  have hac:=chain (j-i-1) i _ _ (List.getElem?_eq_getElem hi) (by rw [show i+(j-i-1)+1=j by omega]; exact List.getElem?_eq_getElem hj)
  have ha:=hH _ (List.getElem_mem hi)
  have hb:=hH _ (List.getElem_mem hj)
  generalize s.hs[i]=a at *
  generalize s.hs[j]=b at *
  obtain ⟨k,m,e1,c1,x1,x2,x3,x4,x5,x6,x7⟩:=cd_of r3 r2 ha
  obtain ⟨k',m',e2,c2,y1,y2,y3,y4,y5,y6,y7⟩:=cd_of r3 r2 hb
  have ka:=ha.2.1
  have ka2:=ha.2.2.1
  have kb:=hb.2.1
  have kb2:=hb.2.2.1
  have hk:k=k':=by omega
  have hm:m=m':=by omega
  have hq:a.o.kind=b.o.kind:=by omega
  subst hk; subst hm
  rw [x4] at y4; injection y4 with y4; subst y4
  rw [x6] at y6; injection y6 with y6; subst y6
  have:a.o=b.o:=by
   obtain ⟨⟨a1,a2,a3⟩,_⟩:=a
   obtain ⟨⟨b1,b2,b3⟩,_⟩:=b
   dsimp only at *
   rw [←x5,←x7,y5,y7,hq]
  rw [this,ahead_irr] at hac
  cases hac
 have:=nodup_lt 192 _ hnd (fun x hx=>by
  obtain ⟨h,hh,rfl⟩:=List.mem_map.1 hx
  obtain ⟨k,m,_,_,x1,x2,x3,_⟩:=cd_of r3 r2 (hH h hh)
  have:=(hH h hh).2.1
  have:=(hH h hh).2.2.1
  omega)
 rw [List.length_map] at this
 exact this
theorem get_put {s:St} (h:rightP s) (h8:∀ h∈s.hs,h.sp.length=8):getS (putB s)=(normS s,0):=by
 unfold getS
 rw [fSt h h8 (hs_192 h)]
 dsimp only
 rw [if_neg (by unfold T.rEnd; simp),if_pos (right_norm h)]
end Go.Proofs.YtflfdglnelbbiaaGreat
