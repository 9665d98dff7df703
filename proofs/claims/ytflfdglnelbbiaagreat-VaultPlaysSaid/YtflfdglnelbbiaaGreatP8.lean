/-
  Part 8 of the functions and the law.
  The document's reader: numbers.
  The document's reader: texts, signed numbers, flags, vectors.
  The document's reader: what an error leaves; a container that comes.
  The document's reader: the lists of containers grow.
  The document's reader: the containers of an entry.
  The document's reader: an entry's head and its end.
  The document's reader: an entry.
  The document's reader: a hold.
  The document's reader: a state; where it stops ahead of the end.
-/
import Derived.Test.YtflfdglnelbbiaaGreatP7
set_option linter.all false
set_option linter.unusedVariables false
set_option linter.unusedSimpArgs false
set_option linter.unusedSectionVars false
namespace Go.Proofs.YtflfdglnelbbiaaGreat
open Go Go.VM
def so (r:RS):HObj:=.pcells [sv r.1,.int .i64 r.2]
def SD (H:Heap) (p:Nat) (r:RS):Prop:=hget H p=so r∧r.1.length≤1000000
def Sdr (p:Nat) (v:AV) (r:RS) (H:Heap) (y:AV × Heap):Prop:=y.1=v∧SD y.2 p r∧KR p H y.2
theorem SD.lt {H:Heap} {p:Nat} {r:RS} (h:SD H p r):p<H.length:=ap h.1 ((by intro h; cases h))
theorem SD.app {H:Heap} {p:Nat} {r:RS} (h:SD H p r) (L:Heap):SD (H++L) p r:=⟨(aA L h.lt).trans h.1,h.2⟩
theorem SD.set {H:Heap} {p:Nat} {r:RS} (h:SD H p r) {i:Nat} (o:HObj) (hi:i≠p):SD (hset H i o) p r:=⟨(an _ _ (Ne.symm hi)).trans h.1,h.2⟩
theorem SD.fr {p:Nat} {r:RS} {A B:Heap} {v:AV} {n:Nat} (h:SD A p r) (hf:Fr v A B) (ht:TokGe n v) (hp:p<n):SD B p r:=
 ⟨(hf.2 p h.lt (fun e=>by have:=ht p e; omega)).trans h.1,h.2⟩
theorem KR.put (p:Nat) (H:Heap) (o:HObj):KR p H (hset H p o):=⟨by rw [br]; exact Nat.le_refl _,fun _ hi _=>an _ _ hi⟩
theorem sdr_put {p:Nat} {H:Heap} {r r':RS} (h:SD H p r) (v:AV) (hl:r'.1.length≤1000000):Sdr p v r' H (v,hset H p (so r')):=⟨rfl,⟨ai _ h.lt,hl⟩,KR.put p H _⟩
theorem sdr_id {p:Nat} {H:Heap} {r:RS} (h:SD H p r) (v:AV):Sdr p v r H (v,H):=⟨rfl,h,KR.refl p H⟩
theorem sfail {H:Heap} {p:Nat} {bs:List UInt8} (h:SD H p (bs,0)) (err:Int) (he:err≠0):EE env (.fn 65) [.ptr p 0,.pv (.int .i64 err)] H=some (.pv (.tup []),hset H p (so ([],err))):=by
 refine Has.eq (aK ?_)
 refine a8 _ h.1 ?_
 refine ab rfl ?_
 refine aT rfl ?_
 refine boolK_bne_t he ?_
 refine a8 _ h.1 ?_
 refine aa rfl ?_
 refine ao ?_
 refine a8 _ (ai _ h.lt) ?_
 refine aa rfl ?_
 refine ao ?_
 refine Has.intro ?_
 rw [hset_hset]; rfl
def dval:List UInt8→Nat
 | []=>0
 | c::l=>c.toNat % 128+128*dval l
theorem dval_snoc:∀ (l:List UInt8) (c:UInt8),dval (l++[c])=dval l+c.toNat % 128*128 ^ l.length
 | [],c=>by show c.toNat % 128+128*0=0+c.toNat % 128*1; omega
 | d::l,c=>by
   show d.toNat % 128+128*dval (l++[c])=d.toNat % 128+128*dval l+c.toNat % 128*128 ^ (l.length+1)
   rw [dval_snoc l c,Nat.pow_succ,Nat.mul_comm (128 ^ l.length) 128,←Nat.mul_assoc,Nat.mul_add]
   have:128*(c.toNat % 128*128 ^ l.length)=c.toNat % 128*128*128 ^ l.length:=by rw [←Nat.mul_assoc,Nat.mul_comm 128]
   omega
theorem dval_le:∀ (l:List UInt8) (i:Nat),dval (l.drop i)≤dval l
 | _,0=>Nat.le_refl _
 | [],i+1=>Nat.le_refl _
 | c::l,i+1=>by
   have:=dval_le l i
   show dval (l.drop i)≤c.toNat % 128+128*dval l
   omega
theorem gN_eq (bs:List UInt8) (e:Int) (m:Nat):gN m (bs,e)=if e≠0 then (0,bs,e) else if (T.numF 0 0 bs).2.1≠0 then (0,[],(T.numF 0 0 bs).2.1) else if (T.numF 0 0 bs).1>m then (0,[],15) else ((T.numF 0 0 bs).1,(T.numF 0 0 bs).2.2,0):=rfl
theorem numF_cons (i u:Nat) (c:UInt8) (l:List UInt8):T.numF i u (c::l)=if i=9∧c.toNat>1 then (0,11,[]) else if c.toNat=0∧i>0 then (0,11,[]) else if c.toNat<128 then (u+c.toNat*128 ^ i,0,l) else T.numF (i+1) (u+(c.toNat % 128)*128 ^ i) l:=by
 conv=>lhs; unfold T.numF
theorem seq_if2 {R:Type} {Q:R→Prop} {env:Env} {E:Orc} {a b:VCode} {r:Regs} {h:Heap} {k:Ex→Regs→Heap→Option R} (Lr:List (Nat × AV)) (Hr:Heap) (Pr:Prop) (L:List (Nat × AV)) (Pn:Prop) (H:Heap)
 (ha:Has (evK env E a Res r h doneK) fun x=>(x.1 = .ret∧Agr x.2.1 Lr∧x.2.2=Hr∧Pr)∨(x.1 = .normal∧Agr x.2.1 L∧x.2.2=H∧Pn))
 (hr:Pr→∀ r,Has (k .ret (setL r Lr) Hr) Q) (hn:Pn→∀ r,Has (evK env E b R (setL r L) H k) Q):Has (evK env E (.seq a b) R r h k) Q:=by
 refine seq_join (fun e r h=>(e = .ret∧Agr r Lr∧h=Hr∧Pr)∨(e = .normal∧Agr r L∧h=H∧Pn)) ha fun e r h hj=>?_
 rcases hj with ⟨rfl,h2,rfl,h4⟩ | ⟨rfl,h2,rfl,h4⟩
 ·have:=hr h4 r
  rw [h2.eq] at this
  exact this
 ·have:=hn h4 r
  rw [h2.eq] at this
  exact this
def stopAt (bs:List UInt8) (n:Nat):Prop:=n≤bs.length∧n≤10∧(n<10→T.numF 0 0 bs=T.numF n (dval (bs.take n)) (bs.drop n))∧(n=10→T.numF 0 0 bs=(0,11,[]))
theorem take_succ' {bs:List UInt8} {i:Nat} {c:UInt8} (h:bs[i]? = some c):bs.take (i+1)=bs.take i++[c]:=by
 rw [List.take_add_one,h]; rfl
theorem stop_step {bs:List UInt8} {i:Nat} {c:UInt8} (h:stopAt bs i) (hc:bs[i]? = some c) (h10:i<10) (hb:c.toNat>127):stopAt bs (i+1):=by
 obtain ⟨h1,h2,h3,_⟩:=h
 have hlt:i<bs.length:=by
  rcases Nat.lt_or_ge i bs.length with h | h
  ·exact h
  ·rw [List.getElem?_eq_none h] at hc; cases hc
 have h3:=h3 h10
 rw [drop_of hc,numF_cons] at h3
 by_cases h9:i=9∧c.toNat>1
 ·rw [if_pos h9] at h3
  exact ⟨hlt,by omega,fun h=>by omega,fun _=>h3⟩
 ·rw [if_neg h9,if_neg (by omega),if_neg (by omega)] at h3
  refine ⟨hlt,by omega,fun h=>?_,fun h=>by omega⟩
  rw [h3,take_succ' hc,dval_snoc,List.length_take,Nat.min_eq_left h1]
set_option maxHeartbeats 2000000 in
theorem snum_rd {p:Nat} {r:RS} {H:Heap} (h:SD H p r) (m:Nat) (hm:m<18446744073709551616):Has (EE env (.fn 60) [.ptr p 0,.pv (.int .u64 (m:Int))] H) (Sdr p (.pv (.int .u64 ((gN m r).1:Nat))) (gN m r).2 H):=by
 obtain ⟨bs,e⟩:=r
 have hl:=h.lt
 have hb:bs.length≤1000000:=h.2
 have ht:hget H p = .pcells [sv bs,.int .i64 e]:=h.1
 have hsz:(⟨bs.toArray⟩:ByteArray).size=bs.length:=ay bs
 rw [gN_eq]
 refine aK (fn_has rfl ?_)
 refine aM [(0,.ptr p 0),(1,.pv (.int .u64 (m:Int)))] H (Has.intro ⟨rfl,⟨rfl,rfl,trivial⟩,rfl⟩) (fun r=>?_)
 refine seq_if [(4,.pv (.int .u64 0))] (e≠0) [(0,.ptr p 0),(1,.pv (.int .u64 (m:Int)))] (e=0) H ?_ (fun h0 r=>?_) (fun h0 r=>?_)
 ·refine a8 _ ht ?_
  refine ab rfl ?_
  refine aO (fun h1=>?_) (fun h1=>?_)
  ·exact Has.intro (.inl ⟨rfl,⟨rfl,trivial⟩,rfl,h1⟩)
  ·exact Has.intro (.inr ⟨rfl,⟨rfl,rfl,trivial⟩,rfl,h1⟩)
 ·rw [if_pos h0]
  exact Has.intro (sdr_id h _)
 subst h0
 rw [if_neg (by simp)]
 refine aM [(0,.ptr p 0),(1,.pv (.int .u64 (m:Int))),(5,.pv (.int .i64 0))] H (Has.intro ⟨rfl,⟨rfl,rfl,rfl,trivial⟩,rfl⟩) (fun r=>?_)
 refine aV (σ:=Nat) (fun i=>[(0,.ptr p 0),(1,.pv (.int .u64 (m:Int))),(5,.pv (.int .i64 (i:Int)))]) (fun _=>H)
  (fun i=>stopAt bs i∧(i=bs.length∨i=10 ∨ ∃ c,bs[i]? = some c∧c.toNat≤127)) ?_ (fun n ⟨hst,hex⟩ r=>?_)
 ·refine aw ?_
  refine aC (σ:=Nat) (fun i=>bs.length-i) (fun i=>[(0,.ptr p 0),(1,.pv (.int .u64 (m:Int))),(5,.pv (.int .i64 (i:Int)))]) (fun _=>H)
   (fun i=>stopAt bs i) (fun i hst r=>?_) 0 ⟨Nat.zero_le _,by decide,fun _=>rfl,fun h=>by cases h⟩ ⟨rfl,rfl,rfl,trivial⟩ rfl
  have hi:=hst.1
  refine a8 _ ht ?_
  refine ab rfl ?_
  refine ah (fun h1=>?_) (fun h1=>?_)
  ·refine ah (fun h2=>?_) (fun h2=>?_)
   ·refine a8 _ ht ?_
    refine ab rfl ?_
    have hlt:i<bs.length:=by rw [ay] at h1; omega
    obtain ⟨c,hc⟩:∃ c,bs[i]? = some c:=⟨_,List.getElem?_eq_getElem hlt⟩
    refine aa (by simp; omega) ?_
    refine ab hc ?_
    refine ah (fun h3=>?_) (fun h3=>?_)
    ·refine a9 _ (aq (by omega)) ?_
     exact Has.intro ⟨i+1,stop_step hst hc (by omega) (by omega),by omega,⟨rfl,rfl,rfl,trivial⟩,rfl⟩
    ·refine Has.intro ?_
     exact Has.intro ⟨rfl,i,⟨hst,.inr (.inr ⟨c,hc,by omega⟩)⟩,⟨rfl,rfl,rfl,trivial⟩,rfl⟩
   ·refine Has.intro ?_
    exact Has.intro ⟨rfl,i,⟨hst,.inr (.inl (by have:=hst.2.1; omega))⟩,⟨rfl,rfl,rfl,trivial⟩,rfl⟩
  ·refine Has.intro ?_
   exact Has.intro ⟨rfl,i,⟨hst,.inl (by rw [ay] at h1; omega)⟩,⟨rfl,rfl,rfl,trivial⟩,rfl⟩
 refine seq_if2 [(4,.pv (.int .u64 0))] (hset H p (so ([],11))) (n=10) [(0,.ptr p 0),(1,.pv (.int .u64 (m:Int))),(5,.pv (.int .i64 (n:Int)))] (n≠10) H ?_ (fun h10 r=>?_) (fun h10 r=>?_)
 ·refine aP (fun h1=>?_) (fun h1=>?_)
  ·refine au (sfail h 11 (by decide)) ?_
   exact Has.intro (.inl ⟨rfl,⟨rfl,trivial⟩,rfl,by omega⟩)
  ·exact Has.intro (.inr ⟨rfl,⟨rfl,rfl,rfl,trivial⟩,rfl,by omega⟩)
 ·rw [hst.2.2.2 h10,if_pos (by decide)]
  exact Has.intro (sdr_put h _ (Nat.zero_le _))
 have hn10:n<10:=by have:=hst.2.1; omega
 have hf:=hst.2.2.1 hn10
 refine seq_if2 [(4,.pv (.int .u64 0))] (hset H p (so ([],10))) (n=bs.length) [(0,.ptr p 0),(1,.pv (.int .u64 (m:Int))),(5,.pv (.int .i64 (n:Int)))] (n≠bs.length) H ?_ (fun hn r=>?_) (fun hn r=>?_)
 ·refine a8 _ ht ?_
  refine ab rfl ?_
  refine aP (fun h1=>?_) (fun h1=>?_)
  ·refine au (sfail h 10 (by decide)) ?_
   exact Has.intro (.inl ⟨rfl,⟨rfl,trivial⟩,rfl,by rw [ay] at h1; omega⟩)
  ·exact Has.intro (.inr ⟨rfl,⟨rfl,rfl,rfl,trivial⟩,rfl,by rw [ay] at h1; omega⟩)
 ·rw [hn,List.drop_length] at hf
  have hf:T.numF 0 0 bs=(0,10,[]):=hf
  rw [hf,if_pos (by decide)]
  exact Has.intro (sdr_put h _ (Nat.zero_le _))
 obtain ⟨c,hc,hc127⟩:∃ c,bs[n]? = some c∧c.toNat≤127:=by
  rcases hex with h | h | h
  ·exact absurd h hn
  ·exact absurd h h10
  ·exact h
 have hnl:n<bs.length:=by have:=hst.1; omega
 rw [drop_of hc,numF_cons] at hf
 refine seq_if2 [(4,.pv (.int .u64 0))] (hset H p (so ([],11))) ((n=9∧c.toNat>1)∨(c.toNat=0∧n>0)) [(0,.ptr p 0),(1,.pv (.int .u64 (m:Int))),(5,.pv (.int .i64 (n:Int)))] (¬ (n=9∧c.toNat>1) ∧ ¬ (c.toNat=0∧n>0)) H ?_ (fun hw r=>?_) (fun ⟨hw1,hw2⟩ r=>?_)
 ·refine aP (fun h9=>?_) (fun h9=>?_)
  ·have h9:n=9:=by omega
   subst h9
   (refine a8 _ ht ?_; refine ab rfl ?_; refine aa (by simp; omega) ?_; refine ab hc ?_)
   refine ah (fun h1=>?_) (fun h1=>?_)
   ·((refine au (sfail h 11 (by decide)) ?_; exact Has.intro (.inl ⟨rfl,⟨rfl,trivial⟩,rfl,by omega⟩)))
   refine aY (by omega) ?_
   (refine a8 _ ht ?_; refine ab rfl ?_; refine aa (by simp; omega) ?_; refine ab hc ?_)
   refine aP (fun h2=>?_) (fun h2=>?_)
   ·((refine au (sfail h 11 (by decide)) ?_; exact Has.intro (.inl ⟨rfl,⟨rfl,trivial⟩,rfl,by omega⟩)))
   ·(exact Has.intro (.inr ⟨rfl,⟨rfl,rfl,rfl,trivial⟩,rfl,by omega,by omega⟩))
  refine ah (fun h1=>?_) (fun h1=>?_)
  ·(refine a8 _ ht ?_; refine ab rfl ?_; refine aa (by simp; omega) ?_; refine ab hc ?_)
   refine aP (fun h2=>?_) (fun h2=>?_)
   ·((refine au (sfail h 11 (by decide)) ?_; exact Has.intro (.inl ⟨rfl,⟨rfl,trivial⟩,rfl,by omega⟩)))
   ·(exact Has.intro (.inr ⟨rfl,⟨rfl,rfl,rfl,trivial⟩,rfl,by omega,by omega⟩))
  ·(exact Has.intro (.inr ⟨rfl,⟨rfl,rfl,rfl,trivial⟩,rfl,by omega,by omega⟩))
 ·have hf:T.numF 0 0 bs=(0,11,[]):=by
   rw [hf]
   by_cases h1:n=9∧c.toNat>1
   ·rw [if_pos h1]
   ·rw [if_neg h1,if_pos (by omega)]
  rw [hf,if_pos (by decide)]
  exact Has.intro (sdr_put h _ (Nat.zero_le _))
 rw [if_neg hw1,if_neg hw2,if_pos (by omega)] at hf
 have hv:dval (bs.take (n+1))=dval (bs.take n)+c.toNat*128 ^ n:=by
  rw [take_succ' hc,dval_snoc,List.length_take,Nat.min_eq_left (by omega),Nat.mod_eq_of_lt (by omega)]
 rw [←hv] at hf
 have hlt:dval (bs.take (n+1))<18446744073709551616:=(T.numF_lt hf).1
 rw [hf,if_neg (by simp)]
 dsimp only
 clear hf hv hw1 hw2 hex hst
 refine aM [(0,.ptr p 0),(1,.pv (.int .u64 (m:Int))),(5,.pv (.int .i64 (n:Int))),(6,.pv (.int .u64 0))] H (Has.intro ⟨rfl,⟨rfl,rfl,rfl,rfl,trivial⟩,rfl⟩) (fun r=>?_)
 refine aM [(0,.ptr p 0),(1,.pv (.int .u64 (m:Int))),(5,.pv (.int .i64 (n:Int))),(6,.pv (.int .u64 (dval (bs.take (n+1)):Nat)))] H ?_ (fun r=>?_)
 ·refine aw ?_
  refine aC (σ:=Nat) (fun j=>j) (fun j=>[(0,.ptr p 0),(1,.pv (.int .u64 (m:Int))),(5,.pv (.int .i64 (n:Int))),(6,.pv (.int .u64 (dval ((bs.take (n+1)).drop j):Nat))),(7,.pv (.int .i64 ((j:Int)-1)))]) (fun _=>H)
   (fun j=>j≤n+1) (fun j hj r=>?_) (n+1) (Nat.le_refl _) ⟨rfl,rfl,rfl,(by
     show _=AV.pv (PV.int IntKind.u64 ((dval ((bs.take (n+1)).drop (n+1)):Nat):Int))
     rw [List.drop_of_length_le (by rw [List.length_take]; exact Nat.min_le_left _ _)]; rfl),(by
     show _=AV.pv (PV.int IntKind.i64 (((n+1:Nat):Int)-1))
     rw [show ((n+1:Nat):Int)-1=(n:Int) by omega]; rfl),trivial⟩ rfl
  refine ah (fun h1=>?_) (fun h1=>?_)
  ·obtain ⟨i,rfl⟩:∃ i,j=i+1:=⟨j-1,by omega⟩
   obtain ⟨d,hd⟩:∃ d,bs[i]? = some d:=⟨_,List.getElem?_eq_getElem (by omega)⟩
   have hd':(bs.take (n+1))[i]? = some d:=by rw [List.getElem?_take_of_lt (by omega)]; exact hd
   have hdv:dval ((bs.take (n+1)).drop i)=d.toNat % 128+128*dval ((bs.take (n+1)).drop (i+1)):=by rw [drop_of hd']; rfl
   have hle:=dval_le (bs.take (n+1)) i
   have hi1:((i+1:Nat):Int)-1=(i:Int):=by omega
   generalize dval ((bs.take (n+1)).drop (i+1))=u at *
   refine a9 ((u*128:Nat):Int) ((aL _).trans (by omega)) ?_
   refine a8 _ ht ?_
   refine ab rfl ?_
   refine aa (by simp; omega) ?_
   refine ab (v:=d) (by rw [hi1]; exact hd) ?_
   refine aa rfl ?_
   refine a9 ((d.toNat % 128:Nat):Int) rfl ?_
   refine a9 ((d.toNat % 128:Nat):Int) ((aL _).trans (by omega)) ?_
   refine a9 ((dval ((bs.take (n+1)).drop i):Nat):Int) ((aL _).trans (by omega)) ?_
   refine a9 ((i:Int)-1) ((wrap_i64 (by omega) (by omega)).trans (by omega)) ?_
   exact Has.intro ⟨i,by omega,by omega,⟨rfl,rfl,rfl,rfl,rfl,trivial⟩,rfl⟩
  ·refine Has.intro ?_
   have:j=0:=by omega
   subst this
   exact Has.intro ⟨rfl,⟨rfl,rfl,rfl,rfl,trivial⟩,rfl⟩
 refine seq_if2 [(4,.pv (.int .u64 0))] (hset H p (so ([],15))) (dval (bs.take (n+1))>m) [(0,.ptr p 0),(5,.pv (.int .i64 (n:Int))),(6,.pv (.int .u64 (dval (bs.take (n+1)):Nat)))] (¬ dval (bs.take (n+1))>m) H ?_ (fun hw r=>?_) (fun hw r=>?_)
 ·refine ah (fun h1=>?_) (fun h1=>?_)
  ·refine au (sfail h 15 (by decide)) ?_
   exact Has.intro (.inl ⟨rfl,⟨rfl,trivial⟩,rfl,by omega⟩)
  ·exact Has.intro (.inr ⟨rfl,⟨rfl,rfl,rfl,trivial⟩,rfl,by omega⟩)
 ·rw [if_pos hw]
  exact Has.intro (sdr_put h _ (Nat.zero_le _))
 rw [if_neg hw]
 refine a8 _ ht ?_
 refine ab rfl ?_
 refine a9 _ (aq (by omega)) ?_
 refine aa (by simp; omega) ?_
 refine a9 ⟨(bs.drop (n+1)).toArray⟩ ?_ ?_
 ·rw [sv_extract,List.take_of_length_le (by omega)]; rfl
 refine a8 _ ht ?_
 refine aa rfl ?_
 refine ao ?_
 exact Has.intro (sdr_put h _ (by dsimp only; rw [List.length_drop]; omega))
end Go.Proofs.YtflfdglnelbbiaaGreat
namespace Go.Proofs.YtflfdglnelbbiaaGreat
open Go Go.VM
theorem Sdr.mono {p:Nat} {v:AV} {r:RS} {H G:Heap} {y:AV × Heap} (hk:KR p H G) (h:Sdr p v r G y):Sdr p v r H y:=⟨h.1,h.2.1,hk.trans h.2.2⟩
theorem gT_eq (r:RS):gT 16 r=if (gN T.maxU r).2.2≠0 then ([],(gN T.maxU r).2) else if (16:Int)<0∨((gN T.maxU r).1:Int)>16 then ([],[],15) else if (gN T.maxU r).1>(gN T.maxU r).2.1.length then ([],[],10) else ((gN T.maxU r).2.1.take (gN T.maxU r).1,(gN T.maxU r).2.1.drop (gN T.maxU r).1,(gN T.maxU r).2.2):=rfl
theorem gS_eq (r:RS):gS r=if (gN T.maxU r).2.2≠0 then (0,(gN T.maxU r).2) else if T.zag (gN T.maxU r).1 < -1000∨T.zag (gN T.maxU r).1>1000 then (0,[],15) else (T.zag (gN T.maxU r).1,(gN T.maxU r).2):=rfl
theorem maxU_lt:T.maxU<18446744073709551616:=by decide
set_option maxHeartbeats 1000000 in
theorem stxt_rd {p:Nat} {r:RS} {H:Heap} (h:SD H p r):Has (EE env (.fn 61) [.ptr p 0,.pv (.int .i64 16)] H) (Sdr p (.pv (sv (gT 16 r).1)) (gT 16 r).2 H):=by
 rw [gT_eq]
 refine aK ?_
 refine am ((snum_rd h T.maxU maxU_lt).mono fun z hz=>?_)
 obtain ⟨v,G⟩:=z
 obtain ⟨rfl,hr,hk⟩:=hz
 dsimp only at hr hk ⊢
 have hlt:(gN T.maxU r).1≤T.maxU:=gN_le _ _
 have hmu:T.maxU=18446744073709551615:=rfl
 generalize gN T.maxU r=g at *
 obtain ⟨n,bs,e⟩:=g
 dsimp only at hr hlt ⊢
 have hb:bs.length≤1000000:=hr.2
 have ht:hget G p = .pcells [sv bs,.int .i64 e]:=hr.1
 refine a8 _ ht ?_
 refine ab rfl ?_
 refine aO (fun h1=>?_) (fun h1=>?_)
 ·rw [if_pos h1]
  exact Has.intro ⟨rfl,hr,hk⟩
 have h1:e=0:=h1
 subst h1
 rw [if_neg (by simp)]
 refine aF (by decide) ?_
 refine a9 16 rfl ?_
 refine ah (fun h3=>?_) (fun h3=>?_)
 ·rw [if_pos (.inr h3)]
  refine au (sfail hr 15 (by decide)) ?_
  exact Has.intro ((sdr_put hr _ (Nat.zero_le _)).mono hk)
 rw [if_neg (by omega)]
 refine a8 _ ht ?_
 refine ab rfl ?_
 refine a9 ((bs.length:Nat):Int) ((aL _).trans (by rw [ay]; omega)) ?_
 refine ah (fun h4=>?_) (fun h4=>?_)
 ·rw [if_pos (by omega)]
  refine au (sfail hr 10 (by decide)) ?_
  exact Has.intro ((sdr_put hr _ (Nat.zero_le _)).mono hk)
 rw [if_neg (by omega)]
 refine a8 _ ht ?_
 refine ab rfl ?_
 refine a9 ((n:Nat):Int) (wrap_i64 (by omega) (by omega)) ?_
 refine aa (by simp [ay]; omega) ?_
 refine a9 ⟨(bs.take n).toArray⟩ (by rw [show ((n:Nat):Int).toNat=n from rfl,sv_extract]; rfl) ?_
 refine a8 _ ht ?_
 refine ab rfl ?_
 refine a9 ((n:Nat):Int) (wrap_i64 (by omega) (by omega)) ?_
 refine aa (by simp [ay]; omega) ?_
 refine a9 ⟨(bs.drop n).toArray⟩ (by rw [sv_extract,List.take_of_length_le (by rw [ay]; exact Nat.le_refl _)]; rfl) ?_
 refine a8 _ ht ?_
 refine aa rfl ?_
 refine ao ?_
 exact Has.intro ((sdr_put hr _ (by dsimp only; rw [List.length_drop]; omega)).mono hk)
theorem quo2 (n:Nat):((n:Nat):Int).tdiv 2=((n / 2:Nat):Int):=rfl
set_option maxHeartbeats 1000000 in
theorem ssig_rd {p:Nat} {r:RS} {H:Heap} (h:SD H p r):Has (EE env (.fn 62) [.ptr p 0,.pv (.int .i64 (-1000)),.pv (.int .i64 1000)] H) (Sdr p (.pv (.int .i64 (gS r).1)) (gS r).2 H):=by
 rw [gS_eq]
 refine aK (fn_has rfl ?_)
 refine aM [(0,.ptr p 0),(1,.pv (.int .i64 (-1000))),(2,.pv (.int .i64 1000))] H (Has.intro ⟨rfl,⟨rfl,rfl,rfl,trivial⟩,rfl⟩) (fun r0=>?_)
 refine aV (σ:=Heap) (fun _=>[(0,.ptr p 0),(1,.pv (.int .i64 (-1000))),(2,.pv (.int .i64 1000)),(7,.pv (.int .u64 ((gN T.maxU r).1:Nat)))]) (fun G=>G) (fun G=>SD G p (gN T.maxU r).2∧KR p H G) ?_ (fun G ⟨hr,hk⟩ r0=>?_)
 ·refine am ((snum_rd h T.maxU maxU_lt).mono fun z hz=>?_)
  obtain ⟨v,G⟩:=z
  obtain ⟨rfl,hr,hk⟩:=hz
  exact Has.intro ⟨rfl,G,⟨hr,hk⟩,⟨rfl,rfl,rfl,rfl,trivial⟩,rfl⟩
 have hlt:(gN T.maxU r).1≤T.maxU:=gN_le _ _
 have hmu:T.maxU=18446744073709551615:=rfl
 generalize gN T.maxU r=g at *
 obtain ⟨n,bs,e⟩:=g
 dsimp only at hr hlt ⊢
 refine aM [(0,.ptr p 0),(1,.pv (.int .i64 (-1000))),(2,.pv (.int .i64 1000)),(7,.pv (.int .u64 (n:Int))),(8,.pv (.int .i64 ((n / 2:Nat):Int)))] G ?_ (fun r0=>?_)
 ·refine aa rfl ?_
  refine a9 ((n / 2:Nat):Int) ((aL _).trans (by rw [quo2]; omega)) ?_
  refine a9 ((n / 2:Nat):Int) (wrap_i64 (by omega) (by omega)) ?_
  exact Has.intro ⟨rfl,⟨rfl,rfl,rfl,rfl,rfl,trivial⟩,rfl⟩
 refine aM [(0,.ptr p 0),(1,.pv (.int .i64 (-1000))),(2,.pv (.int .i64 1000)),(8,.pv (.int .i64 (T.zag n)))] G ?_ (fun r0=>?_)
 ·refine aa rfl ?_
  refine a9 ((n % 2:Nat):Int) rfl ?_
  refine aP (fun h1=>?_) (fun h1=>?_)
  ·refine a9 (-((n / 2:Nat):Int)) ((wrap_i64 (by omega) (by omega)).trans (by omega)) ?_
   refine a9 (-((n / 2:Nat):Int)-1) (wrap_i64 (by omega) (by omega)) ?_
   have hz:T.zag n = -((n / 2:Nat):Int)-1:=by unfold T.zag; rw [if_pos (by omega)]; omega
   rw [hz]
   exact Has.intro ⟨rfl,⟨rfl,rfl,rfl,rfl,trivial⟩,rfl⟩
  ·have hz:T.zag n=((n / 2:Nat):Int):=by unfold T.zag; rw [if_neg (by omega)]; omega
   rw [hz]
   exact Has.intro ⟨rfl,⟨rfl,rfl,rfl,rfl,trivial⟩,rfl⟩
 generalize T.zag n=z
 refine seq_if [(6,.pv (.int .i64 0))] (e≠0) [(0,.ptr p 0),(1,.pv (.int .i64 (-1000))),(2,.pv (.int .i64 1000)),(8,.pv (.int .i64 z))] (e=0) G ?_ (fun h1 r0=>?_) (fun h1 r0=>?_)
 ·refine a8 _ hr.1 ?_
  refine ab rfl ?_
  refine aO (fun h1=>?_) (fun h1=>?_)
  ·exact Has.intro (.inl ⟨rfl,⟨rfl,trivial⟩,rfl,h1⟩)
  ·exact Has.intro (.inr ⟨rfl,⟨rfl,rfl,rfl,rfl,trivial⟩,rfl,h1⟩)
 ·rw [if_pos h1]
  exact Has.intro ⟨rfl,hr,hk⟩
 subst h1
 rw [if_neg (by simp)]
 refine seq_if2 [(6,.pv (.int .i64 0))] (hset G p (so ([],15))) (z < -1000∨z>1000) [(8,.pv (.int .i64 z))] (¬ (z < -1000∨z>1000)) G ?_ (fun h1 r0=>?_) (fun h1 r0=>?_)
 ·refine ah (fun h1=>?_) (fun h1=>?_)
  ·refine au (sfail hr 15 (by decide)) ?_
   exact Has.intro (.inl ⟨rfl,⟨rfl,trivial⟩,rfl,.inl h1⟩)
  refine ah (fun h2=>?_) (fun h2=>?_)
  ·refine au (sfail hr 15 (by decide)) ?_
   exact Has.intro (.inl ⟨rfl,⟨rfl,trivial⟩,rfl,.inr h2⟩)
  ·exact Has.intro (.inr ⟨rfl,⟨rfl,trivial⟩,rfl,by omega⟩)
 ·rw [if_pos h1]
  exact Has.intro ((sdr_put hr _ (Nat.zero_le _)).mono hk)
 rw [if_neg h1]
 exact Has.intro ⟨rfl,hr,hk⟩
theorem gF_eq (bs:List UInt8) (e:Int):gF (bs,e)=if e≠0 then (false,bs,e) else match bs with
 | []=>(false,[],10)
 | c::l=>if c.toNat>1 then (false,[],11) else (decide (c.toNat=1),l,0):=rfl
set_option maxHeartbeats 1000000 in
theorem sflg_rd {p:Nat} {r:RS} {H:Heap} (h:SD H p r):Has (EE env (.fn 63) [.ptr p 0] H) (Sdr p (.pv (.bool (gF r).1)) (gF r).2 H):=by
 obtain ⟨bs,e⟩:=r
 have ht:hget H p = .pcells [sv bs,.int .i64 e]:=h.1
 have hb:bs.length≤1000000:=h.2
 rw [gF_eq]
 refine aK ?_
 refine a8 _ ht ?_
 refine ab rfl ?_
 refine aO (fun h1=>?_) (fun h1=>?_)
 ·rw [if_pos h1]
  exact Has.intro (sdr_id h _)
 subst h1
 rw [if_neg (by simp)]
 refine a8 _ ht ?_
 refine ab rfl ?_
 cases bs with
 | nil=>
   refine aU (beq_self_eq_true _) ?_
   refine au (sfail h 10 (by decide)) ?_
   exact Has.intro (sdr_put h _ (Nat.zero_le _))
 | cons c l=>
   refine aQ (by simp) ?_
   refine a8 _ ht ?_
   refine ab rfl ?_
   refine aa (by simp [ay]) ?_
   refine ab (v:=c) rfl ?_
   dsimp only
   refine ah (fun h2=>?_) (fun h2=>?_)
   ·rw [if_pos (by omega)]
    refine au (sfail h 11 (by decide)) ?_
    exact Has.intro (sdr_put h _ (Nat.zero_le _))
   rw [if_neg (by omega)]
   refine a8 _ ht ?_
   refine ab rfl ?_
   refine aa (by simp [ay]; omega) ?_
   refine a9 ⟨l.toArray⟩ (by rw [sv_extract,List.take_of_length_le (by rw [ay]; exact Nat.le_refl _)]; rfl) ?_
   refine a8 _ ht ?_
   refine aa rfl ?_
   refine ao ?_
   refine boolK_has_keep ?_
   have hd:((c.toNat:Int)==1)=decide (c.toNat=1):=by
    rw [Bool.eq_iff_iff,beq_iff_eq,decide_eq_true_iff]; omega
   have:=sdr_put (r':=(l,0)) h (.pv (.bool (decide (c.toNat=1)))) (by have:(c::l).length=l.length+1:=rfl; dsimp only; omega)
   rw [←hd] at this ⊢
   exact Has.intro this
set_option maxHeartbeats 1000000 in
theorem svec_rd {p:Nat} {r:RS} {H:Heap} (h:SD H p r):Has (EE env (.fn 64) [.ptr p 0] H) (Sdr p (.pv (.agg (vc (gV r).1))) (gV r).2 H):=by
 have hl:=h.lt
 have c1:=gN_le 1099511627776 r
 have c2:=gN_le 1125899906842624 (gN 1099511627776 r).2
 have c3:=gN_le 1125899906842624 (gN 1125899906842624 (gN 1099511627776 r).2).2
 refine aK ?_
 refine am ((snum_rd ((h.app [HObj.pcells (vc v0)]).app [HObj.pcells (vc v0)]) 1099511627776 (by decide)).mono fun z hz=>?_)
 (obtain ⟨v,G⟩:=z; obtain ⟨rfl,hr,hk⟩:=hz; dsimp only at hr hk ⊢)
 obtain ⟨q,hq⟩:∃ q,q=H.length:=⟨_,rfl⟩
 obtain ⟨q3,hq3⟩:∃ q,q=(H++[HObj.pcells (vc v0)]).length:=⟨_,rfl⟩
 have hq3':q3=q+1:=by rw [hq3,hq]; simp
 have k2:hget G q = .pcells (vc v0):=hk.obj (by omega) ((aA _ (by rw [hq]; simp)).trans (by rw [hq]; exact ak H _)) ((by intro h; cases h))
 have k3:hget G q3 = .pcells (vc v0):=hk.obj (by omega) (by rw [hq3]; exact ak _ _) ((by intro h; cases h))
 have K:=((KR.app p H _).trans (KR.app p _ _)).trans hk
 rw [←hq,show List.length (H++[HObj.pcells [PV.int IntKind.i64 0,PV.int IntKind.i64 0,PV.int IntKind.i64 0]])=q3 from hq3.symm]
 clear hk
 refine a9 _ (wrap_i64 (by omega) (by omega)) ?_
 refine a8 _ k3 ?_
 refine aa rfl ?_
 refine a9 (vc ⟨(gN 1099511627776 r).1,0,0⟩) rfl ?_
 generalize hX:(.pcells (vc ⟨(gN 1099511627776 r).1,0,0⟩):HObj)=X
 replace hr:=hr.set (i:=q3) X (by omega)
 replace k2:=(an G (i:=q3) X (by omega)).trans k2
 replace K:=K.set (i:=q3) X (by omega)
 replace k3:=ai (H:=G) (id:=q3) X (ap k3 ((by intro h; cases h)))
 generalize hset G q3 X=G at hr k2 k3 K ⊢
 subst hX
 refine am ((snum_rd hr 1125899906842624 (by decide)).mono fun z hz=>?_)
 clear hr
 (obtain ⟨v,G⟩:=z; obtain ⟨rfl,hr,hk⟩:=hz; dsimp only at hr hk ⊢)
 replace k2:=hk.obj (by omega) k2 ((by intro h; cases h))
 replace k3:=hk.obj (by omega) k3 ((by intro h; cases h))
 replace K:=K.trans hk
 clear hk
 refine a9 _ (wrap_i64 (by omega) (by omega)) ?_
 refine a8 _ k3 ?_
 refine aa rfl ?_
 refine a9 (vc ⟨(gN 1099511627776 r).1,(gN 1125899906842624 (gN 1099511627776 r).2).1,0⟩) rfl ?_
 generalize hX:(.pcells (vc ⟨(gN 1099511627776 r).1,(gN 1125899906842624 (gN 1099511627776 r).2).1,0⟩):HObj)=X
 replace hr:=hr.set (i:=q3) X (by omega)
 replace k2:=(an G (i:=q3) X (by omega)).trans k2
 replace K:=K.set (i:=q3) X (by omega)
 replace k3:=ai (H:=G) (id:=q3) X (ap k3 ((by intro h; cases h)))
 generalize hset G q3 X=G at hr k2 k3 K ⊢
 subst hX
 refine am ((snum_rd hr 1125899906842624 (by decide)).mono fun z hz=>?_)
 clear hr
 (obtain ⟨v,G⟩:=z; obtain ⟨rfl,hr,hk⟩:=hz; dsimp only at hr hk ⊢)
 replace k2:=hk.obj (by omega) k2 ((by intro h; cases h))
 replace k3:=hk.obj (by omega) k3 ((by intro h; cases h))
 replace K:=K.trans hk
 clear hk
 refine a9 _ (wrap_i64 (by omega) (by omega)) ?_
 refine a8 _ k3 ?_
 refine aa rfl ?_
 refine a9 (vc ⟨(gN 1099511627776 r).1,(gN 1125899906842624 (gN 1099511627776 r).2).1,(gN 1125899906842624 (gN 1125899906842624 (gN 1099511627776 r).2).2).1⟩) rfl ?_
 generalize hX:(.pcells (vc ⟨(gN 1099511627776 r).1,(gN 1125899906842624 (gN 1099511627776 r).2).1,(gN 1125899906842624 (gN 1125899906842624 (gN 1099511627776 r).2).2).1⟩):HObj)=X
 replace hr:=hr.set (i:=q3) X (by omega)
 replace k2:=(an G (i:=q3) X (by omega)).trans k2
 replace K:=K.set (i:=q3) X (by omega)
 replace k3:=ai (H:=G) (id:=q3) X (ap k3 ((by intro h; cases h)))
 generalize hset G q3 X=G at hr k2 k3 K ⊢
 subst hX
 refine a8 _ k3 ?_
 refine ae (v:=vc (gV r).1) rfl (of_decide_eq_true rfl) ?_
 refine a8 _ k2 ?_
 refine aa rfl ?_
 refine a9 (vc (gV r).1) rfl ?_
 refine a8 _ (ai _ (ap k2 ((by intro h; cases h)))) ?_
 refine ae (v:=vc (gV r).1) rfl (of_decide_eq_true rfl) ?_
 exact Has.intro ⟨rfl,hr.set _ (by omega),K.set _ (by omega)⟩
end Go.Proofs.YtflfdglnelbbiaaGreat
namespace Go.Proofs.YtflfdglnelbbiaaGreat
open Go Go.VM
section
variable {r:RS} (h:r.2≠0)
include h
theorem gN_err (m:Nat):gN m r=(0,r):=by
 obtain ⟨bs,e⟩:=r
 rw [gN_eq,if_pos h]
theorem gN_e2 (m:Nat):(gN m r).2=r:=by rw [gN_err h]
theorem gT_e2:(gT 16 r).2=r:=by rw [gT_eq,gN_e2 h,if_pos h]
theorem gS_e2:(gS r).2=r:=by rw [gS_eq,gN_e2 h,if_pos h]
theorem gF_e2:(gF r).2=r:=by
 obtain ⟨bs,e⟩:=r
 rw [gF_eq,if_pos h]
theorem gV_e2:(gV r).2=r:=by
 show (gN _ (gN _ (gN _ r).2).2).2=r
 rw [gN_e2 h,gN_e2 h,gN_e2 h]
theorem gFs_e2:(gFs r).2=r:=by
 show (gF (gF (gF r).2).2).2=r
 rw [gF_e2 h,gF_e2 h,gF_e2 h]
theorem gC_e2:(gC r).2=r:=by
 show (gV (gV (gV (gV (gFs (gT 16 r).2).2).2).2).2).2=r
 rw [gT_e2 h,gFs_e2 h,gV_e2 h,gV_e2 h,gV_e2 h,gV_e2 h]
theorem gCs_e2:∀ i,(gCs r i).2=r
 | 0=>rfl
 | i+1=>by show (gC (gCs r i).2).2=r; rw [gCs_e2 i,gC_e2 h]
theorem gE_e2:(gE r).2=r:=by
 show (gN 63 (gN 1099511627776 (gCs (gN 6 (gN 2 (gS (gT 16 r).2).2).2).2 (gN 6 (gN 2 (gS (gT 16 r).2).2).2).1).2).2).2=r
 rw [gT_e2 h,gS_e2 h,gN_e2 h,gN_e2 h,gCs_e2 h,gN_e2 h,gN_e2 h]
theorem gI_e2:∀ i,(gI r i).2=r
 | 0=>rfl
 | i+1=>by show (gN _ (gI r i).2).2=r; rw [gI_e2 i,gN_e2 h]
theorem gH_e2:(gH r).2=r:=by
 show (gI (gN 1 (gT 16 (gT 16 r).2).2).2 8).2=r
 rw [gT_e2 h,gT_e2 h,gN_e2 h,gI_e2 h]
end
theorem gEs_stop {r:RS} {j:Nat} (h:(gEs r j).2.2≠0):∀ d,(gEs r (j+d)).2=(gEs r j).2
 | 0=>rfl
 | d+1=>by show (gE (gEs r (j+d)).2).2=_; rw [gEs_stop h d,gE_e2 h]
theorem gHs_stop {r:RS} {j:Nat} (h:(gHs r j).2.2≠0):∀ d,(gHs r (j+d)).2=(gHs r j).2
 | 0=>rfl
 | d+1=>by show (gH (gHs r (j+d)).2).2=_; rw [gHs_stop h d,gH_e2 h]
abbrev LOOP1:VCode:=c35.at [1,1,1,1,1,0]
abbrev BODY1:VCode:=LOOP1.at [1,0,0,1,0,0]
abbrev LOOPC:VCode:=BODY1.at [1,1,1,1,1,1,0]
abbrev BODYC:VCode:=LOOPC.at [1,0,0,1,0,0]
def Lc (a2:AV) (p:Nat) (a5 a6 a7:AV) (q9:Nat) (a10 a11:AV):List (Nat × AV):=[(2,a2),(4,.ptr p 0),(5,a5),(6,a6),(7,a7),(9,.ptr q9 0),(10,a10),(11,a11)]
def CS (p q:Nat) (H G:Heap) (r:RS) (o:HObj):Prop:=SD G p r∧hget G q=o∧KR p H G
def CS2 (p q q':Nat) (H G:Heap) (r:RS) (o o':HObj):Prop:=SD G p r∧hget G q=o∧hget G q'=o'∧KR p H G
theorem CS.put {p q:Nat} {H G:Heap} {r:RS} {o:HObj} (h:CS p q H G r o) (ho:o ≠ .dead) (hp:p<H.length) (hq:H.length≤q) (o':HObj):CS p q H (hset G q o') r o':=
 ⟨h.1.set _ (by omega),ai _ (ap h.2.1 ho),h.2.2.set _ hq⟩
theorem CS.call {p q:Nat} {H G:Heap} {r r':RS} {o:HObj} {v:AV} {z:AV × Heap} (h:CS p q H G r o) (ho:o ≠ .dead) (hp:p<H.length) (hq:H.length≤q) (hz:Sdr p v r' G z):CS p q H z.2 r' o:=
 ⟨hz.2.1,hz.2.2.obj (by omega) h.2.1 ho,h.2.2.trans hz.2.2⟩
theorem CS2.put1 {p q q':Nat} {H G:Heap} {r:RS} {o1 o2:HObj} (h:CS2 p q q' H G r o1 o2) (ho:o1 ≠ .dead) (hp:p<H.length) (hq:H.length≤q) (hqq:q<q') (o':HObj):CS2 p q q' H (hset G q o') r o' o2:=
 ⟨h.1.set _ (by omega),ai _ (ap h.2.1 ho),(an _ _ (by omega)).trans h.2.2.1,h.2.2.2.set _ hq⟩
theorem CS2.put2 {p q q':Nat} {H G:Heap} {r:RS} {o1 o2:HObj} (h:CS2 p q q' H G r o1 o2) (ho:o2 ≠ .dead) (hp:p<H.length) (hq:H.length≤q) (hqq:q<q') (o':HObj):CS2 p q q' H (hset G q' o') r o1 o':=
 ⟨h.1.set _ (by omega),(an _ _ (by omega)).trans h.2.1,ai _ (ap h.2.2.1 ho),h.2.2.2.set _ (by omega)⟩
theorem CS2.call {p q q':Nat} {H G:Heap} {r r':RS} {o1 o2:HObj} {v:AV} {z:AV × Heap} (h:CS2 p q q' H G r o1 o2) (ho:o1 ≠ .dead) (ho2:o2 ≠ .dead) (hp:p<H.length) (hq:H.length≤q) (hqq:q<q') (hz:Sdr p v r' G z):CS2 p q q' H z.2 r' o1 o2:=
 ⟨hz.2.1,hz.2.2.obj (by omega) h.2.1 ho,hz.2.2.obj (by omega) h.2.2.1 ho2,h.2.2.2.trans hz.2.2⟩
theorem gC_eq (r:RS):gC r=((⟨(gT 16 r).1,(gV (gFs (gT 16 r).2).2).1,(gV (gV (gFs (gT 16 r).2).2).2).1,(gFs (gT 16 r).2).1.1,(gFs (gT 16 r).2).1.2.1,(gFs (gT 16 r).2).1.2.2⟩,⟨(gT 16 r).1,(gV (gV (gV (gFs (gT 16 r).2).2).2).2).1,(gV (gV (gV (gV (gFs (gT 16 r).2).2).2).2).2).1,(gFs (gT 16 r).2).1.1,(gFs (gT 16 r).2).1.2.1,(gFs (gT 16 r).2).1.2.2⟩),(gV (gV (gV (gV (gFs (gT 16 r).2).2).2).2).2).2):=rfl
theorem gFs_eq (r:RS):gFs r=(((gF r).1,(gF (gF r).2).1,(gF (gF (gF r).2).2).1),(gF (gF (gF r).2).2).2):=rfl
set_option maxHeartbeats 4000000 in
theorem fill_ok {p:Nat} {r:RS} {H:Heap} (h:SD H p r) (a2 a5 a6 a7:AV) (q9:Nat) (a10 a11:AV) (r0:Regs) {Q:Res→Prop} (k:Ex→Regs→Heap→Option Res)
 (hb:∀ (q q':Nat) (G:Heap) (r1:Regs),H.length≤q→q<q'→CS2 p q q' H G (gC r).2 (.pcells (ct (gC r).1.1)) (.pcells (ct (gC r).1.2)) →
   Has (evK env (EE env) (BODYC.at [1,1,1,1,1,1,1,1,1,1]) Res (setL r1 ((12,.ptr q 0)::(13,.ptr q' 0)::Lc a2 p a5 a6 a7 q9 a10 a11)) G k) Q) :
 Has (evK env (EE env) BODYC Res (setL r0 (Lc a2 p a5 a6 a7 q9 a10 a11)) H k) Q:=by
 have hl:=h.lt
 rw [gC_eq] at hb
 refine aV (σ:=Heap) (fun _=>(12,.ptr H.length 0)::Lc a2 p a5 a6 a7 q9 a10 a11) (fun G=>G) (fun G=>CS p H.length H G r (.pcells (ct ⟨[],v0,v0,false,false,false⟩))) ?_ (fun G hG r0=>?_)
 ·exact Has.intro ⟨rfl,_,⟨h.app _,ak H _,KR.app p H _⟩,⟨rfl,rfl,rfl,rfl,rfl,rfl,rfl,rfl,rfl,trivial⟩,rfl⟩
 refine aV (σ:=Heap) (fun _=>(12,.ptr H.length 0)::Lc a2 p a5 a6 a7 q9 a10 a11) (fun G=>G) (fun G=>CS p H.length H G (gT 16 r).2 (.pcells (ct ⟨(gT 16 r).1,v0,v0,false,false,false⟩))) ?_ (fun G hG r0=>?_)
 ·refine am ((stxt_rd hG.1).mono fun z hz=>?_)
  have h2:=hG.call ((by intro h; cases h)) hl (Nat.le_refl _) hz
  clear hG
  obtain ⟨v,G2⟩:=z
  obtain ⟨rfl,_,_⟩:=hz
  refine a8 _ h2.2.1 ?_
  refine aa rfl ?_
  refine a9 (ct ⟨(gT 16 r).1,v0,v0,false,false,false⟩) rfl ?_
  exact Has.intro ⟨rfl,_,h2.put ((by intro h; cases h)) hl (Nat.le_refl _) _,⟨rfl,rfl,rfl,rfl,rfl,rfl,rfl,rfl,rfl,trivial⟩,rfl⟩
 refine aV (σ:=Heap) (fun _=>(12,.ptr H.length 0)::Lc a2 p a5 a6 a7 q9 a10 a11) (fun G=>G) (fun G=>CS p H.length H G (gF (gT 16 r).2).2 (.pcells (ct ⟨(gT 16 r).1,v0,v0,(gF (gT 16 r).2).1,false,false⟩))) ?_ (fun G hG r0=>?_)
 ·refine am ((sflg_rd hG.1).mono fun z hz=>?_)
  have h2:=hG.call ((by intro h; cases h)) hl (Nat.le_refl _) hz
  clear hG
  obtain ⟨v,G2⟩:=z
  obtain ⟨rfl,_,_⟩:=hz
  refine aa rfl ?_
  refine a8 _ h2.2.1 ?_
  refine aa rfl ?_
  refine a9 (ct ⟨(gT 16 r).1,v0,v0,(gF (gT 16 r).2).1,false,false⟩) rfl ?_
  exact Has.intro ⟨rfl,_,h2.put ((by intro h; cases h)) hl (Nat.le_refl _) _,⟨rfl,rfl,rfl,rfl,rfl,rfl,rfl,rfl,rfl,trivial⟩,rfl⟩
 refine aV (σ:=Heap) (fun _=>(12,.ptr H.length 0)::Lc a2 p a5 a6 a7 q9 a10 a11) (fun G=>G) (fun G=>CS p H.length H G (gF (gF (gT 16 r).2).2).2 (.pcells (ct ⟨(gT 16 r).1,v0,v0,(gF (gT 16 r).2).1,(gF (gF (gT 16 r).2).2).1,false⟩))) ?_ (fun G hG r0=>?_)
 ·refine am ((sflg_rd hG.1).mono fun z hz=>?_)
  have h2:=hG.call ((by intro h; cases h)) hl (Nat.le_refl _) hz
  clear hG
  obtain ⟨v,G2⟩:=z
  obtain ⟨rfl,_,_⟩:=hz
  refine aa rfl ?_
  refine a8 _ h2.2.1 ?_
  refine aa rfl ?_
  refine a9 (ct ⟨(gT 16 r).1,v0,v0,(gF (gT 16 r).2).1,(gF (gF (gT 16 r).2).2).1,false⟩) rfl ?_
  exact Has.intro ⟨rfl,_,h2.put ((by intro h; cases h)) hl (Nat.le_refl _) _,⟨rfl,rfl,rfl,rfl,rfl,rfl,rfl,rfl,rfl,trivial⟩,rfl⟩
 refine aV (σ:=Heap) (fun _=>(12,.ptr H.length 0)::Lc a2 p a5 a6 a7 q9 a10 a11) (fun G=>G) (fun G=>CS p H.length H G (gF (gF (gF (gT 16 r).2).2).2).2 (.pcells (ct ⟨(gT 16 r).1,v0,v0,(gF (gT 16 r).2).1,(gF (gF (gT 16 r).2).2).1,(gF (gF (gF (gT 16 r).2).2).2).1⟩))) ?_ (fun G hG r0=>?_)
 ·refine am ((sflg_rd hG.1).mono fun z hz=>?_)
  have h2:=hG.call ((by intro h; cases h)) hl (Nat.le_refl _) hz
  clear hG
  obtain ⟨v,G2⟩:=z
  obtain ⟨rfl,_,_⟩:=hz
  refine aa rfl ?_
  refine a8 _ h2.2.1 ?_
  refine aa rfl ?_
  refine a9 (ct ⟨(gT 16 r).1,v0,v0,(gF (gT 16 r).2).1,(gF (gF (gT 16 r).2).2).1,(gF (gF (gF (gT 16 r).2).2).2).1⟩) rfl ?_
  exact Has.intro ⟨rfl,_,h2.put ((by intro h; cases h)) hl (Nat.le_refl _) _,⟨rfl,rfl,rfl,rfl,rfl,rfl,rfl,rfl,rfl,trivial⟩,rfl⟩
 rw [gFs_eq] at hb
 dsimp only at hb
 generalize (gT 16 r).1=n at *
 generalize (gF (gF (gF (gT 16 r).2).2).2).1=f2 at *
 generalize (gF (gF (gF (gT 16 r).2).2).2).2=r4 at *
 generalize (gF (gF (gT 16 r).2).2).1=f1 at *
 generalize (gF (gT 16 r).2).1=f0 at *
 refine aV (σ:=Nat × Heap) (fun q=>(12,.ptr H.length 0)::(13,.ptr q.1 0)::Lc a2 p a5 a6 a7 q9 a10 a11) (fun q=>q.2) (fun q=>H.length<q.1∧CS2 p H.length q.1 H q.2 r4 (.pcells (ct ⟨n,v0,v0,f0,f1,f2⟩)) (.pcells (ct ⟨n,v0,v0,f0,f1,f2⟩))) ?_ (fun ⟨q,G⟩ ⟨hq,hG⟩ r0=>?_)
 ·refine a8 _ hG.2.1 ?_
  refine ae (v:=ct ⟨n,v0,v0,f0,f1,f2⟩) rfl (of_decide_eq_true rfl) ?_
  refine af ?_
  refine aa rfl ?_
  refine a9 (ct ⟨n,v0,v0,f0,f1,f2⟩) rfl ?_
  rw [aH]
  exact Has.intro ⟨rfl,(G.length,G++[.pcells (ct ⟨n,v0,v0,f0,f1,f2⟩)]),⟨ap hG.2.1 ((by intro h; cases h)),hG.1.app _,(aA _ (ap hG.2.1 ((by intro h; cases h)))).trans hG.2.1,ak _ _,hG.2.2.trans (KR.app p _ _)⟩,⟨rfl,rfl,rfl,rfl,rfl,rfl,rfl,rfl,rfl,rfl,trivial⟩,rfl⟩
 dsimp only at hq hG ⊢
 refine aV (σ:=Heap) (fun _=>(12,.ptr H.length 0)::(13,.ptr q 0)::Lc a2 p a5 a6 a7 q9 a10 a11) (fun G=>G) (fun G=>CS2 p H.length q H G (gV r4).2 (.pcells (ct ⟨n,(gV r4).1,v0,f0,f1,f2⟩)) (.pcells (ct ⟨n,v0,v0,f0,f1,f2⟩))) ?_ (fun G hG r0=>?_)
 ·refine am ((svec_rd hG.1).mono fun z hz=>?_)
  have h2:=hG.call ((by intro h; cases h)) ((by intro h; cases h)) hl (Nat.le_refl _) hq hz
  clear hG
  obtain ⟨v,G2⟩:=z
  obtain ⟨rfl,_,_⟩:=hz
  refine a8 _ h2.2.1 ?_
  refine aa rfl ?_
  refine a9 (ct ⟨n,(gV r4).1,v0,f0,f1,f2⟩) rfl ?_
  exact Has.intro ⟨rfl,_,h2.put1 ((by intro h; cases h)) hl (Nat.le_refl _) hq _,⟨rfl,rfl,rfl,rfl,rfl,rfl,rfl,rfl,rfl,rfl,trivial⟩,rfl⟩
 refine aV (σ:=Heap) (fun _=>(12,.ptr H.length 0)::(13,.ptr q 0)::Lc a2 p a5 a6 a7 q9 a10 a11) (fun G=>G) (fun G=>CS2 p H.length q H G (gV (gV r4).2).2 (.pcells (ct ⟨n,(gV r4).1,(gV (gV r4).2).1,f0,f1,f2⟩)) (.pcells (ct ⟨n,v0,v0,f0,f1,f2⟩))) ?_ (fun G hG r0=>?_)
 ·refine am ((svec_rd hG.1).mono fun z hz=>?_)
  have h2:=hG.call ((by intro h; cases h)) ((by intro h; cases h)) hl (Nat.le_refl _) hq hz
  clear hG
  obtain ⟨v,G2⟩:=z
  obtain ⟨rfl,_,_⟩:=hz
  refine a8 _ h2.2.1 ?_
  refine aa rfl ?_
  refine a9 (ct ⟨n,(gV r4).1,(gV (gV r4).2).1,f0,f1,f2⟩) rfl ?_
  exact Has.intro ⟨rfl,_,h2.put1 ((by intro h; cases h)) hl (Nat.le_refl _) hq _,⟨rfl,rfl,rfl,rfl,rfl,rfl,rfl,rfl,rfl,rfl,trivial⟩,rfl⟩
 refine aV (σ:=Heap) (fun _=>(12,.ptr H.length 0)::(13,.ptr q 0)::Lc a2 p a5 a6 a7 q9 a10 a11) (fun G=>G) (fun G=>CS2 p H.length q H G (gV (gV (gV r4).2).2).2 (.pcells (ct ⟨n,(gV r4).1,(gV (gV r4).2).1,f0,f1,f2⟩)) (.pcells (ct ⟨n,(gV (gV (gV r4).2).2).1,v0,f0,f1,f2⟩))) ?_ (fun G hG r0=>?_)
 ·refine am ((svec_rd hG.1).mono fun z hz=>?_)
  have h2:=hG.call ((by intro h; cases h)) ((by intro h; cases h)) hl (Nat.le_refl _) hq hz
  clear hG
  obtain ⟨v,G2⟩:=z
  obtain ⟨rfl,_,_⟩:=hz
  refine a8 _ h2.2.2.1 ?_
  refine aa rfl ?_
  refine a9 (ct ⟨n,(gV (gV (gV r4).2).2).1,v0,f0,f1,f2⟩) rfl ?_
  exact Has.intro ⟨rfl,_,h2.put2 ((by intro h; cases h)) hl (Nat.le_refl _) hq _,⟨rfl,rfl,rfl,rfl,rfl,rfl,rfl,rfl,rfl,rfl,trivial⟩,rfl⟩
 refine aV (σ:=Heap) (fun _=>(12,.ptr H.length 0)::(13,.ptr q 0)::Lc a2 p a5 a6 a7 q9 a10 a11) (fun G=>G) (fun G=>CS2 p H.length q H G (gV (gV (gV (gV r4).2).2).2).2 (.pcells (ct ⟨n,(gV r4).1,(gV (gV r4).2).1,f0,f1,f2⟩)) (.pcells (ct ⟨n,(gV (gV (gV r4).2).2).1,(gV (gV (gV (gV r4).2).2).2).1,f0,f1,f2⟩))) ?_ (fun G hG r0=>?_)
 ·refine am ((svec_rd hG.1).mono fun z hz=>?_)
  have h2:=hG.call ((by intro h; cases h)) ((by intro h; cases h)) hl (Nat.le_refl _) hq hz
  clear hG
  obtain ⟨v,G2⟩:=z
  obtain ⟨rfl,_,_⟩:=hz
  refine a8 _ h2.2.2.1 ?_
  refine aa rfl ?_
  refine a9 (ct ⟨n,(gV (gV (gV r4).2).2).1,(gV (gV (gV (gV r4).2).2).2).1,f0,f1,f2⟩) rfl ?_
  exact Has.intro ⟨rfl,_,h2.put2 ((by intro h; cases h)) hl (Nat.le_refl _) hq _,⟨rfl,rfl,rfl,rfl,rfl,rfl,rfl,rfl,rfl,rfl,trivial⟩,rfl⟩
 exact hb H.length q G r0 (Nat.le_refl _) hq hG
end Go.Proofs.YtflfdglnelbbiaaGreat
namespace Go.Proofs.YtflfdglnelbbiaaGreat
open Go Go.VM
def K2 (p q:Nat) (A B:Heap):Prop:=A.length≤B.length ∧ ∀ i,i≠p→i≠q→i<A.length→hget B i=hget A i
theorem KR.two {p q:Nat} {A B:Heap} (h:KR p A B):K2 p q A B:=⟨h.1,fun i hi _ hl=>h.2 i hi hl⟩
theorem K2.refl (p q:Nat) (A:Heap):K2 p q A A:=⟨Nat.le_refl _,fun _ _ _ _=>rfl⟩
theorem K2.trans {p q:Nat} {A B C:Heap} (h1:K2 p q A B) (h2:K2 p q B C):K2 p q A C:=
 ⟨Nat.le_trans h1.1 h2.1,fun i hi hq hl=>(h2.2 i hi hq (Nat.lt_of_lt_of_le hl h1.1)).trans (h1.2 i hi hq hl)⟩
theorem K2.put {p q:Nat} {A B:Heap} (h:K2 p q A B) (o:HObj):K2 p q A (hset B q o):=
 ⟨by rw [br]; exact h.1,fun i hi hq hl=>(an _ _ hq).trans (h.2 i hi hq hl)⟩
theorem K2.obj {p q:Nat} {A B:Heap} (h:K2 p q A B) {i:Nat} {o:HObj} (hp:i≠p) (hq:i≠q) (ho:hget A i=o) (hd:o ≠ .dead):hget B i=o:=(h.2 i hp hq (ap ho hd)).trans ho
theorem AppV.ex {H:Heap} {v:AV} {e e':Ext} {es n:Nat} {cs:List PV} (h:AppV H v e es n cs) (hn:n≠0):AppV H v e' es n cs:=by
 rcases h with h | h
 ·exact absurd h.1 hn
 ·exact .inr h
theorem AppV.krn {p:Nat} {H G:Heap} {r:RS} {v:AV} {e:Ext} {es n:Nat} {cs:List PV} (h:AppV H v e es n cs) (hk:KR p H G) (hr:SD H p r):AppV G v e es n cs:=by
 rcases h with hu | ⟨a,b,t,rfl,h⟩
 ·exact .inl hu
 ·exact .inr ⟨a,b,t,rfl,hk.obj (fun e=>by subst e; have:=hr.1; rw [h] at this; cases this) h ((by intro h; cases h))⟩
theorem eobj_ne {n:List UInt8} {s p:Int} {v w:AV} {a d:Int}:eobj n s p v w a d ≠ .dead ∧ ∀ m es,eobj n s p v w a d ≠ .tok m es:=by
 constructor
 ·unfold eobj; split<;>intro h<;>cases h
 ·intro m es; unfold eobj; split<;>intro h<;>cases h
theorem AppV.src {H:Heap} {w:AV} {e:Ext} {es n:Nat} {cs:List PV} (h:AppV H w e es n cs):srcLen w=some n ∧ ∀ {R:Type} (H':Heap) (G:List PV→Option R),srcK H' w G=G cs:=by
 rcases h with ⟨rfl,rfl,rfl,_⟩ | ⟨_,_,t,rfl,_⟩
 ·exact ⟨rfl,fun _ _=>rfl⟩
 ·exact ⟨rfl,fun _ _=>rfl⟩
theorem K2fr {p q n:Nat} {A B C:Heap} {v:AV} (h:K2 p q A B) (hf:Fr v B C) (hg:TokGe n v) (hn:A.length≤n):K2 p q A C:=
 ⟨Nat.le_trans h.1 hf.1,fun i hi hq hl=>(hf.2 i (Nat.lt_of_lt_of_le hl h.1) (fun e=>by have:=hg i e; omega)).trans (h.2 i hi hq hl)⟩
theorem tok_ge {H:Heap} {v w:AV} {e:Ext} {es n:Nat} {cs:List PV} (h:AppV H w e es n cs) (hg:TokGe H.length v):tokOf w=none∨tokOf w≠tokOf v:=by
 cases hh:tokOf w with
 | none=>exact .inl rfl
 | some t=>
   refine .inr (fun e=>?_)
   have h1:=AppV.tok h t hh
   have h2:=hg t e.symm
   omega
set_option maxHeartbeats 4000000 in
theorem apps_ok {p q q':Nat} {r r9:RS} {H G:Heap} (hp:SD H p r9) {c d:Ct} (hG:CS2 p q q' H G r (.pcells (ct c)) (.pcells (ct d))) (hq:H.length≤q) (hqq:q<q')
 (nm:List UInt8) (s pr:Int) (v w:AV) (i:Nat) (hi:i≤100) (A B:List PV) {q9:Nat} (h9:hget H q9=eobj nm s pr v w 0 0) (hqp:q9≠p) (hv:AppV H v .nil 10 i A) (hw:AppV H w .nil 10 i B)
 (a2 a5 a6 a7 a10 a11:AV) (r1:Regs) :
 Has (evK env (EE env) (BODYC.at [1,1,1,1,1,1,1,1,1,1]) Res (setL r1 ((12,.ptr q 0)::(13,.ptr q' 0)::Lc a2 p a5 a6 a7 q9 a10 a11)) G (blockK 3 doneK)) (fun x=>x.1 = .normal∧Agr x.2.1 (Lc a2 p a5 a6 a7 q9 a10 a11) ∧
  ∃ v' w',SD x.2.2 p r∧hget x.2.2 q9=eobj nm s pr v' w' 0 0∧AppV x.2.2 v' .nil 10 (i+1) (A++ct c)∧AppV x.2.2 w' .nil 10 (i+1) (B++ct d)∧K2 p q9 H x.2.2):=by
 obtain ⟨hr,k12,k13,K⟩:=hG
 have k9:=K.obj hqp h9 eobj_ne.1
 have h9l:=ap h9 eobj_ne.1
 replace hv:=AppV.krn hv K hp
 replace hw:=AppV.krn hw K hp
 have hHl:=K.1
 refine aV (σ:=Heap × Nat) (fun s=>(12,.ptr q 0)::(13,.ptr q' 0)::Lc a2 p a5 a6 a7 q9 a10 a11) (fun s=>s.1)
  (fun g=>SD g.1 p r∧hget g.1 q' = .pcells (ct d)∧hget g.1 q9=eobj nm s pr (.tsl g.2 (i+1) (A++ct c)) w 0 0∧AppV g.1 (.tsl g.2 (i+1) (A++ct c)) .nil 10 (i+1) (A++ct c)∧AppV g.1 w .nil 10 i B∧K2 p q9 H g.1) ?_ ?_
 ·rcases formsG hv with ⟨hz,hcs,hve⟩ | ⟨hz,t,hve⟩
  all_goals
   rcases formsG hw with ⟨hz2,hcs2,hwe⟩ | ⟨hz2,t2,hwe⟩
  all_goals first
   | (exfalso; omega)
   | skip
  all_goals
   have k9l:=k9
   rw [hve,hwe] at k9l
   refine a8 _ k9l ?_
   first
    | refine ab rfl ?_
    | skip
   first
    | (subst hz; subst hcs; subst hcs2)
    | skip
   refine app_cells (cs:=[]) (n:=0) (e:=.nnx) (AppV.new rfl) rfl (fun _=>rfl) (AppV.len hv) (by show (0+_)*72≤140737488355328; omega) (fun v1 G1 hv1 hf1 ht1=>?_)
   have tp:∀ j,tokOf (.pv (.sl .nnx 0 []))≠some j:=fun j e=>by cases e
   have k12':=(hf1.2 q (ap k12 ((by intro h; cases h))) (tp q)).trans k12
   have k13':=(hf1.2 q' (ap k13 ((by intro h; cases h))) (tp q')).trans k13
   have k9':=(hf1.2 q9 (ap k9 eobj_ne.1) (tp q9)).trans k9
   have hr':=SD.fr (n:=p+1) hr hf1 (fun t e=>absurd e (tp t)) (Nat.lt_succ_self p)
   have hw':=AppV.keep hw hf1 (by cases hh:tokOf w with | none=>exact .inl rfl | some t=>exact .inr (fun e=>by cases e))
   have K':=K.two.trans (KR.two (q:=q9) (KR.fr (KR.refl p G) hf1 (fun t e=>absurd e (tp t))))
   refine ba ?_
   refine a8 _ k12' ?_
   refine ae (v:=ct c) rfl (of_decide_eq_true rfl) ?_
   have hpG:p<G.length:=hr.lt
   have hgv1':TokGe G.length v1:=fun t e=>by
    rcases ht1 with ht1 | ht1
    ·rw [ht1] at e; cases e
    ·rw [ht1] at e; injection e with e; omega
   have hgv1:TokGe (p+1) v1:=fun t e=>by have:=hgv1' t e; omega
   refine app_has (m:=1) (new:=ct c) hv1 rfl (by show (0+_+1)*72≤140737488355328; omega) (fun v2 G2 hv2 hf2 ht2=>?_)
   have k9'':=Fr.obj hv1 hf2 k9' eobj_ne.1 eobj_ne.2
   have k12'':=Fr.obj hv1 hf2 k12' ((by intro h; cases h)) ((fun _ _ h=>by cases h))
   have k13'':=Fr.obj hv1 hf2 k13' ((by intro h; cases h)) ((fun _ _ h=>by cases h))
   simp only [Nat.zero_add,List.nil_append] at hv2
   have hw2:=AppV.keep hw' hf2 (tok_ge hw hgv1')
   have k9l2:=k9''
   rw [hve,hwe] at k9l2
   rcases hv2 with ⟨h0,_⟩ | ⟨_,hlen,t,rfl,ht⟩
   ·omega
   refine a8 _ k9l2 ?_
   refine bq (by rw [k12,k12']) (by rw [k12]; rfl) ?_
   first
    | refine Has.intro ⟨rfl,(hset G2 q9 (eobj nm s pr (.tsl t (i+1) (A++ct c)) w 0 0),t),⟨?_,?_,?_,?_,?_,?_⟩,⟨rfl,rfl,rfl,rfl,rfl,rfl,rfl,rfl,rfl,rfl,trivial⟩,?_⟩
    | refine Has.intro ⟨rfl,(hset G2 q9 (eobj nm s pr (.tsl t (0+1) ([]++ct c)) w 0 0),t),⟨?_,?_,?_,?_,?_,?_⟩,⟨rfl,rfl,rfl,rfl,rfl,rfl,rfl,rfl,rfl,rfl,trivial⟩,?_⟩
   ·exact (SD.fr (n:=p+1) hr' hf2 hgv1 (Nat.lt_succ_self p)).set _ hqp
   ·exact (an _ _ (by omega)).trans k13''
   ·exact ai _ (ap k9'' eobj_ne.1)
   ·exact b9 (.inr ⟨by omega,hlen,t,rfl,ht⟩) _ k9'' eobj_ne.2
   ·exact b9 hw2 _ k9'' eobj_ne.2
   ·exact (K2fr K' hf2 hgv1' hHl).put _
   ·rw [hwe]; rfl
 intro ⟨G1,t⟩ ⟨hr,k13,k9,hv,hw,K⟩ r0
 dsimp only at hr k13 k9 hv hw K ⊢
 clear k12 h9
 have hkc:eobj nm s pr (.tsl t (i+1) (A++ct c)) w 0 0 = .cells [.pv (sv nm),.pv (.int .i64 s),.pv (.int .i64 pr),.tsl t (i+1) (A++ct c),.pv (sv nm),.pv (.int .i64 s),.pv (.int .i64 pr),w,.pv (.int .i64 0),.pv (.int .i64 0)]:=rfl
 rw [hkc] at k9
 rcases formsG hw with ⟨hz,hcs,hwe⟩ | ⟨hz,tw,hwe⟩
 all_goals
  have k9l:=k9
  rw [hwe] at k9l
  refine a8 _ k9l ?_
  first
   | (subst hz; subst hcs)
   | skip
  refine app_cells (cs:=[]) (n:=0) (e:=.nnx) (AppV.new rfl) rfl (fun _=>rfl) (AppV.len hw) (by show (0+_)*72≤140737488355328; omega) (fun v1 G2 hv1 hf1 ht1=>?_)
  have tp:∀ j,tokOf (.pv (.sl .nnx 0 []))≠some j:=fun j e=>by cases e
  have k13':=(hf1.2 q' (ap k13 ((by intro h; cases h))) (tp q')).trans k13
  have k9':=(hf1.2 q9 (ap k9 ((by intro h; cases h))) (tp q9)).trans k9
  have hr':=SD.fr (n:=p+1) hr hf1 (fun t e=>absurd e (tp t)) (Nat.lt_succ_self p)
  have hv':=AppV.keep hv hf1 (.inr (fun e=>by cases e))
  have K':=K.trans (KR.two (q:=q9) (KR.fr (KR.refl p G1) hf1 (fun t e=>absurd e (tp t))))
  refine ba ?_
  refine a8 _ k13' ?_
  refine ae (v:=ct d) rfl (of_decide_eq_true rfl) ?_
  have hpG:p<G1.length:=hr.lt
  have hgv1':TokGe G1.length v1:=fun t e=>by
   rcases ht1 with ht1 | ht1
   ·rw [ht1] at e; cases e
   ·rw [ht1] at e; injection e with e; omega
  have hgv1:TokGe (p+1) v1:=fun t e=>by have:=hgv1' t e; omega
  refine app_has (m:=1) (new:=ct d) hv1 rfl (by show (0+_+1)*72≤140737488355328; omega) (fun v2 G3 hv2 hf2 ht2=>?_)
  have k9'':=Fr.obj hv1 hf2 k9' ((by intro h; cases h)) ((fun _ _ h=>by cases h))
  simp only [Nat.zero_add,List.nil_append] at hv2
  have hv2':=AppV.keep hv' hf2 (tok_ge hv hgv1')
  rcases hv2 with ⟨h0,_⟩ | ⟨_,hlen,t2,rfl,ht⟩
  ·omega
  have k9l2:=k9''
  rw [hwe] at k9l2
  refine a8 _ k9l2 ?_
  refine bq (by rw [k13,k13']) (by rw [k13]; rfl) ?_
  first
   | refine Has.intro ⟨rfl,⟨rfl,rfl,rfl,rfl,rfl,rfl,rfl,rfl,trivial⟩,.tsl t (i+1) (A++ct c),.tsl t2 (i+1) (B++ct d),?_,?_,?_,?_,?_⟩
   | refine Has.intro ⟨rfl,⟨rfl,rfl,rfl,rfl,rfl,rfl,rfl,rfl,trivial⟩,.tsl t (0+1) (A++ct c),.tsl t2 (0+1) ([]++ct d),?_,?_,?_,?_,?_⟩
  ·exact (SD.fr (n:=p+1) hr' hf2 hgv1 (Nat.lt_succ_self p)).set _ hqp
  ·exact ai _ (ap k9'' ((by intro h; cases h)))
  ·exact b9 hv2' _ k9'' ((fun _ _ h=>by cases h))
  ·exact b9 (.inr ⟨by omega,hlen,t2,rfl,ht⟩) _ k9'' ((fun _ _ h=>by cases h))
  ·exact (K2fr K' hf2 hgv1' K.1).put _
end Go.Proofs.YtflfdglnelbbiaaGreat
namespace Go.Proofs.YtflfdglnelbbiaaGreat
open Go Go.VM
def Lb (a2:AV) (p:Nat) (a5 a6 a7:AV) (q9:Nat):List (Nat × AV):=[(2,a2),(4,.ptr p 0),(5,a5),(6,a6),(7,a7),(9,.ptr q9 0)]
theorem gCs_next (g:RS) (i:Nat):gCs g (i+1)=((gCs g i).1++[(gC (gCs g i).2).1],(gC (gCs g i).2).2):=rfl
set_option maxHeartbeats 4000000 in
theorem loopC_ok {p q9:Nat} {g:RS} {H:Heap} (hr:SD H p g) (hqp:q9≠p) (nm:List UInt8) (s pr:Int) (k9:hget H q9=eobj nm s pr ((.pv (.sl .nil 0 []))) ((.pv (.sl .nil 0 []))) 0 0) (k:Nat) (hk:k≤6) (a2 a5 a6 a7:AV) (r0:Regs) :
 Has (evK env (EE env) LOOPC Res (setL r0 ((10,.pv (.int .i64 (k:Int)))::Lb a2 p a5 a6 a7 q9)) H doneK) (fun x=>x.1 = .normal∧Agr x.2.1 (Lb a2 p a5 a6 a7 q9) ∧
  ∃ v w,SD x.2.2 p (gCs g k).2∧hget x.2.2 q9=eobj nm s pr v w 0 0∧AppV x.2.2 v .nil 10 k (flat ct ((gCs g k).1.map (·.1)))∧AppV x.2.2 w .nil 10 k (flat ct ((gCs g k).1.map (·.2)))∧K2 p q9 H x.2.2):=by
 refine aw ?_
 refine aC (σ:=Nat × AV × AV × Heap) (fun t=>k-t.1) (fun t=>Lc a2 p a5 a6 a7 q9 (.pv (.int .i64 (k:Int))) (.pv (.int .i64 (t.1:Int)))) (fun t=>t.2.2.2)
  (fun t=>t.1≤k∧SD t.2.2.2 p (gCs g t.1).2∧hget t.2.2.2 q9=eobj nm s pr t.2.1 t.2.2.1 0 0∧AppV t.2.2.2 t.2.1 .nil 10 t.1 (flat ct ((gCs g t.1).1.map (·.1)))∧AppV t.2.2.2 t.2.2.1 .nil 10 t.1 (flat ct ((gCs g t.1).1.map (·.2)))∧K2 p q9 H t.2.2.2)
  (fun ⟨i,v,w,G⟩ ⟨hi,hr,k9,hv,hw,K⟩ r'=>?_) (0,((.pv (.sl .nil 0 []))),((.pv (.sl .nil 0 []))),H) ⟨Nat.zero_le _,hr,k9,AppV.new rfl,AppV.new rfl,K2.refl _ _ _⟩ ⟨rfl,rfl,rfl,rfl,rfl,rfl,rfl,rfl,trivial⟩ rfl
 dsimp only at hi hr k9 hv hw K ⊢
 show Has (evK env (EE env) (LOOPC.at [1,0,0]) Res (setL r' (Lc a2 p a5 a6 a7 q9 (.pv (.int .i64 (k:Int))) (.pv (.int .i64 (i:Int))))) G doneK) _
 refine seq_join (fun e r h=>h=G∧Agr r (Lc a2 p a5 a6 a7 q9 (.pv (.int .i64 (k:Int))) (.pv (.int .i64 (i:Int))))∧((e = .normal∧i<k)∨(e = .exit 2 ∧ ¬ i<k))) ?_ (fun e r h hj=>?_)
 ·refine ah (fun hc=>?_) (fun hc=>?_)
  ·exact Has.intro ⟨rfl,⟨rfl,rfl,rfl,rfl,rfl,rfl,rfl,rfl,trivial⟩,.inl ⟨rfl,by omega⟩⟩
  ·exact Has.intro ⟨rfl,⟨rfl,rfl,rfl,rfl,rfl,rfl,rfl,rfl,trivial⟩,.inr ⟨rfl,by omega⟩⟩
 obtain ⟨rfl,hA,hj⟩:=hj
 rw [←hA.eq]
 rcases hj with ⟨rfl,hlt⟩ | ⟨rfl,hge⟩
 ·show Has (evK env (EE env) (LOOPC.at [1,0,0,1]) Res _ _ doneK) _
  refine aV (σ:=AV × AV × Heap) (fun _=>Lc a2 p a5 a6 a7 q9 (.pv (.int .i64 (k:Int))) (.pv (.int .i64 (i:Int)))) (fun t=>t.2.2)
   (fun t=>SD t.2.2 p (gCs g (i+1)).2∧hget t.2.2 q9=eobj nm s pr t.1 t.2.1 0 0∧AppV t.2.2 t.1 .nil 10 (i+1) (flat ct ((gCs g (i+1)).1.map (·.1)))∧AppV t.2.2 t.2.1 .nil 10 (i+1) (flat ct ((gCs g (i+1)).1.map (·.2)))∧K2 p q9 H t.2.2) ?_ (fun ⟨v',w',G'⟩ ⟨hr',k9',hv',hw',K'⟩ r=>?_)
  ·refine fill_ok hr _ _ _ _ _ _ _ r (blockK 3 doneK) (fun q q' G1 r1 hq hqq hcs=>?_)
   refine (apps_ok hr hcs hq hqq nm s pr v w i (by omega) _ _ k9 hqp hv hw _ _ _ _ _ _ r1).mono (fun x hx=>?_)
   obtain ⟨h1,h2,v',w',h3,h4,h5,h6,h7⟩:=hx
   refine ⟨h1,(v',w',x.2.2),⟨h3,h4,?_,?_,K.trans h7⟩,h2,rfl⟩
   ·rw [gCs_next,List.map_append,List.map_cons,List.map_nil,←flat_snoc]; exact h5
   ·rw [gCs_next,List.map_append,List.map_cons,List.map_nil,←flat_snoc]; exact h6
  ·refine a9 _ (aq (by omega)) ?_
   exact Has.intro ⟨(i+1,v',w',G'),⟨hlt,hr',k9',hv',hw',K'⟩,by dsimp only; omega,⟨rfl,rfl,rfl,rfl,rfl,rfl,rfl,rfl,trivial⟩,rfl⟩
 ·have hik:i=k:=by omega
  subst hik
  refine Has.intro ?_
  exact Has.intro ⟨rfl,⟨rfl,rfl,rfl,rfl,rfl,rfl,trivial⟩,v,w,hr,k9,hv,hw,K⟩
end Go.Proofs.YtflfdglnelbbiaaGreat
namespace Go.Proofs.YtflfdglnelbbiaaGreat
open Go Go.VM
def La (a2:AV) (p:Nat) (a5 a6 a7:AV):List (Nat × AV):=[(2,a2),(4,.ptr p 0),(5,a5),(6,a6),(7,a7)]
def po (n:List UInt8) (s pl:Int):List PV:=[sv n,.int .i64 s,.int .i64 pl,.sl .nil 0 []]
set_option maxHeartbeats 4000000 in
theorem head_ok {p:Nat} {r:RS} {H:Heap} (h:SD H p r) (a2 a5 a6 a7:AV) (r0:Regs) {Q:Res→Prop} (k:Ex→Regs→Heap→Option Res)
 (hb:∀ (q9:Nat) (G:Heap) (r1:Regs),H.length≤q9→SD G p (gN 6 (gN 2 (gS (gT 16 r).2).2).2).2→hget G q9=eobj (gT 16 r).1 (gS (gT 16 r).2).1 (gN 2 (gS (gT 16 r).2).2).1 ((.pv (.sl .nil 0 []))) ((.pv (.sl .nil 0 []))) 0 0→KR p H G →
   Has (evK env (EE env) (BODY1.at [1,1,1,1,1,1]) Res (setL r1 ((10,.pv (.int .i64 ((gN 6 (gN 2 (gS (gT 16 r).2).2).2).1:Nat)))::Lb a2 p a5 a6 a7 q9)) G k) Q) :
 Has (evK env (EE env) BODY1 Res (setL r0 (La a2 p a5 a6 a7)) H k) Q:=by
 have hl:=h.lt
 refine aV (σ:=Heap) (fun _=>(((8,.ptr H.length 0)::La a2 p a5 a6 a7))) (fun G=>G) (fun G=>CS p H.length H G r (.pcells (po [] 0 0))) ?_ (fun G hG r0=>?_)
 ·exact Has.intro ⟨rfl,_,⟨h.app _,ak H _,KR.app p H _⟩,(⟨rfl,rfl,rfl,rfl,rfl,rfl,trivial⟩),rfl⟩
 refine aV (σ:=Heap) (fun _=>(((8,.ptr H.length 0)::La a2 p a5 a6 a7))) (fun G=>G) (fun G=>CS p H.length H G (gT 16 r).2 (.pcells (po (gT 16 r).1 0 0))) ?_ (fun G hG r0=>?_)
 ·refine am ((stxt_rd hG.1).mono fun z hz=>?_)
  have h2:=hG.call ((by intro h; cases h)) hl (Nat.le_refl _) hz
  obtain ⟨v,G2⟩:=z
  obtain ⟨rfl,_,_⟩:=hz
  refine a8 _ h2.2.1 ?_
  refine aa rfl ?_
  refine a9 (po (gT 16 r).1 0 0) rfl ?_
  exact Has.intro ⟨rfl,_,h2.put ((by intro h; cases h)) hl (Nat.le_refl _) _,(⟨rfl,rfl,rfl,rfl,rfl,rfl,trivial⟩),rfl⟩
 generalize gT 16 r=gt at *
 refine aV (σ:=Heap) (fun _=>(((8,.ptr H.length 0)::La a2 p a5 a6 a7))) (fun G=>G) (fun G=>CS p H.length H G (gS gt.2).2 (.pcells (po gt.1 (gS gt.2).1 0))) ?_ (fun G hG r0=>?_)
 ·refine am ((ssig_rd hG.1).mono fun z hz=>?_)
  have h2:=hG.call ((by intro h; cases h)) hl (Nat.le_refl _) hz
  obtain ⟨v,G2⟩:=z
  obtain ⟨rfl,_,_⟩:=hz
  refine a8 _ h2.2.1 ?_
  refine aa rfl ?_
  refine a9 (po gt.1 (gS gt.2).1 0) rfl ?_
  exact Has.intro ⟨rfl,_,h2.put ((by intro h; cases h)) hl (Nat.le_refl _) _,(⟨rfl,rfl,rfl,rfl,rfl,rfl,trivial⟩),rfl⟩
 generalize gS gt.2=gs at *
 refine aV (σ:=Heap) (fun _=>(((8,.ptr H.length 0)::La a2 p a5 a6 a7))) (fun G=>G) (fun G=>CS p H.length H G (gN 2 gs.2).2 (.pcells (po gt.1 gs.1 (gN 2 gs.2).1))) ?_ (fun G hG r0=>?_)
 ·have:=gN_le 2 gs.2
  refine am ((snum_rd hG.1 2 (by decide)).mono fun z hz=>?_)
  have h2:=hG.call ((by intro h; cases h)) hl (Nat.le_refl _) hz
  obtain ⟨v,G2⟩:=z
  obtain ⟨rfl,_,_⟩:=hz
  refine a9 ((gN 2 gs.2).1:Int) (wrap_i64 (by omega) (by omega)) ?_
  refine a8 _ h2.2.1 ?_
  refine aa rfl ?_
  refine a9 (po gt.1 gs.1 (gN 2 gs.2).1) rfl ?_
  exact Has.intro ⟨rfl,_,h2.put ((by intro h; cases h)) hl (Nat.le_refl _) _,(⟨rfl,rfl,rfl,rfl,rfl,rfl,trivial⟩),rfl⟩
 generalize gN 2 gs.2=gp at *
 refine aV (σ:=Nat × Heap) (fun q=>Lb a2 p a5 a6 a7 q.1) (fun q=>q.2) (fun q=>H.length≤q.1∧SD q.2 p gp.2∧hget q.2 q.1=eobj gt.1 gs.1 gp.1 ((.pv (.sl .nil 0 []))) ((.pv (.sl .nil 0 []))) 0 0∧KR p H q.2) ?_ (fun ⟨q,G⟩ ⟨hq,hr,k9,K⟩ r0=>?_)
 ·obtain ⟨hr,k8,K⟩:=hG
  refine a8 _ k8 ?_
  refine ae (v:=po gt.1 gs.1 gp.1) rfl (of_decide_eq_true rfl) ?_
  refine a8 _ k8 ?_
  refine ae (v:=po gt.1 gs.1 gp.1) rfl (of_decide_eq_true rfl) ?_
  refine af ?_
  refine aa rfl ?_
  refine a9 [sv gt.1,.int .i64 gs.1,.int .i64 gp.1,.sl .nil 0 [],sv gt.1,.int .i64 gs.1,.int .i64 gp.1,.sl .nil 0 [],.int .i64 0,.int .i64 0] rfl ?_
  rw [aH]
  exact Has.intro ⟨rfl,(G.length,G++[eobj gt.1 gs.1 gp.1 ((.pv (.sl .nil 0 []))) ((.pv (.sl .nil 0 []))) 0 0]),⟨K.1,hr.app _,ak _ _,K.trans (KR.app p _ _)⟩,(⟨rfl,rfl,rfl,rfl,rfl,rfl,trivial⟩),rfl⟩
 dsimp only at hq hr k9 K ⊢
 refine aV (σ:=Heap) (fun _=>(10,.pv (.int .i64 ((gN 6 gp.2).1:Nat)))::Lb a2 p a5 a6 a7 q) (fun G=>G) (fun G=>SD G p (gN 6 gp.2).2∧hget G q=eobj gt.1 gs.1 gp.1 ((.pv (.sl .nil 0 []))) ((.pv (.sl .nil 0 []))) 0 0∧KR p H G) ?_ (fun G ⟨hr,k9,K⟩ r0=>?_)
 ·have:=gN_le 6 gp.2
  refine am ((snum_rd hr 6 (by decide)).mono fun z hz=>?_)
  obtain ⟨v,G2⟩:=z
  obtain ⟨rfl,h1,h2⟩:=hz
  refine a9 ((gN 6 gp.2).1:Int) (wrap_i64 (by omega) (by omega)) ?_
  exact Has.intro ⟨rfl,_,⟨h1,h2.obj (by omega) k9 eobj_ne.1,K.trans h2⟩,⟨rfl,rfl,rfl,rfl,rfl,rfl,rfl,trivial⟩,rfl⟩
 exact hb q G r0 hq hr k9 K
theorem hen_of (n:List UInt8) (s p:Int) (A B:List Ct) (x y:Ext) (a d:Int):en ⟨⟨n,s,p,A⟩,⟨n,s,p,B⟩,x,y,a,d⟩=[sv n,.int .i64 s,.int .i64 p,.sl x A.length (flat ct A),sv n,.int .i64 s,.int .i64 p,.sl y B.length (flat ct B),.int .i64 a,.int .i64 d]:=rfl
set_option maxHeartbeats 4000000 in
theorem grow_ok {p q5 q9:Nat} {r:RS} {H:Heap} (hr:SD H p r) (hq5:q5≠p) (nm:List UInt8) (s pr a d:Int) (v w vx:AV) (k9:hget H q9=eobj nm s pr v w a d) (h59:q9≠q5) (k:Nat) (A B:List Ct) (hA:A.length=k) (hB:B.length=k)
 (hv:AppV H v .nil 10 k (flat ct A)) (hw:AppV H w .nil 10 k (flat ct B)) (gn:Int) (k5:hget H q5=sobj gn vx ((.pv (.sl .nil 0 [])))) (i:Nat) (hi:i≤100) (E:List PV) (hx:AppV H vx .nil 10 i E) (hgx:TokGe (p+1) vx)
 (a2 a6 a7:AV) (r0:Regs) :
 Has (evK env (EE env) (BODY1.at [1,1,1,1,1,1,1,1,1]) Res (setL r0 (Lb a2 p (.ptr q5 0) a6 a7 q9)) H (blockK 1 doneK)) (fun x=>x.1 = .normal∧Agr x.2.1 (La a2 p (.ptr q5 0) a6 a7) ∧
  ∃ vx',SD x.2.2 p r∧hget x.2.2 q5=sobj gn vx' ((.pv (.sl .nil 0 [])))∧AppV x.2.2 vx' .nil 10 (i+1) (E++en ⟨⟨nm,s,pr,A⟩,⟨nm,s,pr,B⟩,xk k,xk k,a,d⟩)∧TokGe (p+1) vx'∧(∀ j o,j≠q5→hget H j = .pcells o→hget x.2.2 j = .pcells o)∧H.length≤x.2.2.length):=by
 have hpl:=hr.lt
 have hkx:k≠0→xk k = .nn:=fun hk=>by
  cases k with
  | zero=>exact absurd rfl hk
  | succ n=>rfl
 rw [hen_of,hA,hB]
 rcases formsG hx with ⟨hz,hcs,rfl⟩ | ⟨hz,t,rfl⟩
 all_goals
  rcases formsG hv with ⟨hz1,hcs1,hve⟩ | ⟨hz1,t1,hve⟩
 all_goals
  rcases formsG hw with ⟨hz2,hcs2,hwe⟩ | ⟨hz2,t2,hwe⟩
 all_goals first
  | (exfalso; omega)
  | skip
 all_goals
  have k9l:=k9
  rw [hve,hwe] at k9l
  refine a8 _ k5 ?_
  first
   | refine ab rfl ?_
   | skip
  refine a8 _ k9l ?_
  first
   | (have hA0:A=[]:=List.eq_nil_of_length_eq_zero (by omega)
      have hB0:B=[]:=List.eq_nil_of_length_eq_zero (by omega)
      subst hA0; subst hB0; subst hz1
      refine ae (v:=[sv nm,.int .i64 s,.int .i64 pr,.sl .nil 0 [],sv nm,.int .i64 s,.int .i64 pr,.sl .nil 0 [],.int .i64 a,.int .i64 d]) rfl (of_decide_eq_true rfl) ?_
      refine app_has (m:=1) (new:=[sv nm,.int .i64 s,.int .i64 pr,.sl .nil 0 [],sv nm,.int .i64 s,.int .i64 pr,.sl .nil 0 [],.int .i64 a,.int .i64 d]) hx rfl (by show (i+1)*128≤140737488355328; omega) (fun v2 G2 hv2 hf ht=>?_)
      have k5':=Fr.obj hx hf k5 aX.1 aX.2
      have hgx':=hgx.app (Nat.succ_le_of_lt hpl) ht
      rcases formsG hv2 with ⟨h0,_⟩ | ⟨_,t3,rfl⟩
      ·omega
      refine a8 _ k5' ?_
      exact Has.intro ⟨rfl,⟨rfl,rfl,rfl,rfl,rfl,trivial⟩,.tsl t3 (i+1) (E++[sv nm,.int .i64 s,.int .i64 pr,.sl .nil 0 [],sv nm,.int .i64 s,.int .i64 pr,.sl .nil 0 [],.int .i64 a,.int .i64 d]),(SD.fr hr hf hgx (Nat.lt_succ_self p)).set _ hq5,ai _ (ap k5' aX.1),b9 hv2 _ k5' aX.2,hgx',fun j o hj ho=>(an _ _ hj).trans (Fr.obj hx hf ho ((by intro h; cases h)) ((fun _ _ h=>by cases h))),by rw [br]; exact hf.1⟩)
   | (rw [hkx hz1]
      refine app_has (m:=1) (new:=[sv nm,.int .i64 s,.int .i64 pr,.sl .nn k (flat ct A),sv nm,.int .i64 s,.int .i64 pr,.sl .nn k (flat ct B),.int .i64 a,.int .i64 d]) hx rfl (by show (i+1)*128≤140737488355328; omega) (fun v2 G2 hv2 hf ht=>?_)
      have k5':=Fr.obj hx hf k5 aX.1 aX.2
      have hgx':=hgx.app (Nat.succ_le_of_lt hpl) ht
      rcases formsG hv2 with ⟨h0,_⟩ | ⟨_,t3,rfl⟩
      ·omega
      refine a8 _ k5' ?_
      exact Has.intro ⟨rfl,⟨rfl,rfl,rfl,rfl,rfl,trivial⟩,.tsl t3 (i+1) (E++[sv nm,.int .i64 s,.int .i64 pr,.sl .nn k (flat ct A),sv nm,.int .i64 s,.int .i64 pr,.sl .nn k (flat ct B),.int .i64 a,.int .i64 d]),(SD.fr hr hf hgx (Nat.lt_succ_self p)).set _ hq5,ai _ (ap k5' aX.1),b9 hv2 _ k5' aX.2,hgx',fun j o hj ho=>(an _ _ hj).trans (Fr.obj hx hf ho ((by intro h; cases h)) ((fun _ _ h=>by cases h))),by rw [br]; exact hf.1⟩)
end Go.Proofs.YtflfdglnelbbiaaGreat
namespace Go.Proofs.YtflfdglnelbbiaaGreat
open Go Go.VM
def EO (p q9:Nat) (H G:Heap) (r:RS) (nm:List UInt8) (s pr:Int) (v w:AV) (a d:Int) (k:Nat) (A B:List PV):Prop:=
 SD G p r∧hget G q9=eobj nm s pr v w a d∧AppV G v .nil 10 k A∧AppV G w .nil 10 k B∧K2 p q9 H G
theorem EO.call {p q9:Nat} {H G:Heap} {r r':RS} {nm:List UInt8} {s pr:Int} {v w:AV} {a d:Int} {k:Nat} {A B:List PV} (h:EO p q9 H G r nm s pr v w a d k A B) (hq:q9≠p) {u:AV} {z:AV × Heap} (hz:Sdr p u r' G z) :
 EO p q9 H z.2 r' nm s pr v w a d k A B:=
 ⟨hz.2.1,hz.2.2.obj hq h.2.1 eobj_ne.1,AppV.krn h.2.2.1 hz.2.2 h.1,AppV.krn h.2.2.2.1 hz.2.2 h.1,h.2.2.2.2.trans hz.2.2.two⟩
theorem EO.put {p q9:Nat} {H G:Heap} {r:RS} {nm:List UInt8} {s pr:Int} {v w:AV} {a d:Int} {k:Nat} {A B:List PV} (h:EO p q9 H G r nm s pr v w a d k A B) (hq:q9≠p) (a' d':Int) :
 EO p q9 H (hset G q9 (eobj nm s pr v w a' d')) r nm s pr v w a' d' k A B:=
 ⟨h.1.set _ hq,ai _ (ap h.2.1 eobj_ne.1),b9 h.2.2.1 _ h.2.1 eobj_ne.2,b9 h.2.2.2.1 _ h.2.1 eobj_ne.2,h.2.2.2.2.put _⟩
set_option maxHeartbeats 4000000 in
theorem age_ok {p q9:Nat} {H G:Heap} {r:RS} {nm:List UInt8} {s pr:Int} {v w:AV} {a d:Int} {k:Nat} {A B:List PV} (h:EO p q9 H G r nm s pr v w a d k A B) (hq:q9≠p) (a2 a5 a6 a7:AV) (r0:Regs) :
 Has (evK env (EE env) (BODY1.at [1,1,1,1,1,1,1,0]) Res (setL r0 (Lb a2 p a5 a6 a7 q9)) G doneK) (fun x=>x.1 = .normal ∧ ∃ G',EO p q9 H G' (gN 1099511627776 r).2 nm s pr v w (gN 1099511627776 r).1 d k A B∧Agr x.2.1 (Lb a2 p a5 a6 a7 q9)∧x.2.2=G'):=by
 have:=gN_le 1099511627776 r
 refine am ((snum_rd h.1 1099511627776 (by decide)).mono fun z hz=>?_)
 have h2:=h.call hq hz
 obtain ⟨u,G2⟩:=z
 obtain ⟨rfl,_,_⟩:=hz
 dsimp only at h2 ⊢
 generalize gN 1099511627776 r=ga at *
 refine a9 (ga.1:Int) (wrap_i64 (by omega) (by omega)) ?_
 have h3:=h2.put hq ga.1 d
 rcases formsG h2.2.2.1 with ⟨hz,hcs,hve⟩ | ⟨hz,t,hve⟩
 all_goals
  rcases formsG h2.2.2.2.1 with ⟨hz2,hcs2,hwe⟩ | ⟨hz2,t2,hwe⟩
 all_goals first
  | (exfalso; omega)
  | skip
 all_goals
  have k9l:=h2.2.1
  rw [hve,hwe] at k9l
  refine a8 _ k9l ?_
  first
   | (refine aa rfl ?_
      refine a9 [sv nm,.int .i64 s,.int .i64 pr,.sl .nil 0 [],sv nm,.int .i64 s,.int .i64 pr,.sl .nil 0 [],.int .i64 ga.1,.int .i64 d] rfl ?_)
   | skip
  refine Has.intro ⟨rfl,_,h3,(⟨rfl,rfl,rfl,rfl,rfl,rfl,trivial⟩),?_⟩
  rw [hve,hwe]; rfl
set_option maxHeartbeats 4000000 in
theorem due_ok {p q9:Nat} {H G:Heap} {r:RS} {nm:List UInt8} {s pr:Int} {v w:AV} {a d:Int} {k:Nat} {A B:List PV} (h:EO p q9 H G r nm s pr v w a d k A B) (hq:q9≠p) (a2 a5 a6 a7:AV) (r0:Regs) :
 Has (evK env (EE env) (BODY1.at [1,1,1,1,1,1,1,1,0]) Res (setL r0 (Lb a2 p a5 a6 a7 q9)) G doneK) (fun x=>x.1 = .normal ∧ ∃ G',EO p q9 H G' (gN 63 r).2 nm s pr v w a (gN 63 r).1 k A B∧Agr x.2.1 (Lb a2 p a5 a6 a7 q9)∧x.2.2=G'):=by
 have:=gN_le 63 r
 refine am ((snum_rd h.1 63 (by decide)).mono fun z hz=>?_)
 have h2:=h.call hq hz
 obtain ⟨u,G2⟩:=z
 obtain ⟨rfl,_,_⟩:=hz
 dsimp only at h2 ⊢
 generalize gN 63 r=ga at *
 refine a9 (ga.1:Int) (wrap_i64 (by omega) (by omega)) ?_
 have h3:=h2.put hq a ga.1
 rcases formsG h2.2.2.1 with ⟨hz,hcs,hve⟩ | ⟨hz,t,hve⟩
 all_goals
  rcases formsG h2.2.2.2.1 with ⟨hz2,hcs2,hwe⟩ | ⟨hz2,t2,hwe⟩
 all_goals first
  | (exfalso; omega)
  | skip
 all_goals
  have k9l:=h2.2.1
  rw [hve,hwe] at k9l
  refine a8 _ k9l ?_
  first
   | (refine aa rfl ?_
      refine a9 [sv nm,.int .i64 s,.int .i64 pr,.sl .nil 0 [],sv nm,.int .i64 s,.int .i64 pr,.sl .nil 0 [],.int .i64 a,.int .i64 ga.1] rfl ?_)
   | skip
  refine Has.intro ⟨rfl,_,h3,(⟨rfl,rfl,rfl,rfl,rfl,rfl,trivial⟩),?_⟩
  rw [hve,hwe]; rfl
theorem gE_eq (r:RS):gE r=(⟨⟨(gT 16 r).1,(gS (gT 16 r).2).1,(gN 2 (gS (gT 16 r).2).2).1,(gCs (gN 6 (gN 2 (gS (gT 16 r).2).2).2).2 (gN 6 (gN 2 (gS (gT 16 r).2).2).2).1).1.map (·.1)⟩,⟨(gT 16 r).1,(gS (gT 16 r).2).1,(gN 2 (gS (gT 16 r).2).2).1,(gCs (gN 6 (gN 2 (gS (gT 16 r).2).2).2).2 (gN 6 (gN 2 (gS (gT 16 r).2).2).2).1).1.map (·.2)⟩,
 xk (gN 6 (gN 2 (gS (gT 16 r).2).2).2).1,xk (gN 6 (gN 2 (gS (gT 16 r).2).2).2).1,(gN 1099511627776 (gCs (gN 6 (gN 2 (gS (gT 16 r).2).2).2).2 (gN 6 (gN 2 (gS (gT 16 r).2).2).2).1).2).1,
 (gN 63 (gN 1099511627776 (gCs (gN 6 (gN 2 (gS (gT 16 r).2).2).2).2 (gN 6 (gN 2 (gS (gT 16 r).2).2).2).1).2).2).1⟩,(gN 63 (gN 1099511627776 (gCs (gN 6 (gN 2 (gS (gT 16 r).2).2).2).2 (gN 6 (gN 2 (gS (gT 16 r).2).2).2).1).2).2).2):=rfl
theorem AppV.k2 {p q:Nat} {A B:Heap} {r:RS} {o:HObj} {v:AV} {e:Ext} {es n:Nat} {cs:List PV} (h:AppV A v e es n cs) (hk:K2 p q A B) (hr:SD A p r) (hq:hget A q=o) (ho:∀ m es,o ≠ .tok m es):AppV B v e es n cs:=by
 rcases h with hu | ⟨a,b,t,rfl,h⟩
 ·exact .inl hu
 ·exact .inr ⟨a,b,t,rfl,hk.obj (fun e=>by subst e; have:=hr.1; rw [h] at this; cases this) (fun e=>by subst e; exact ho _ _ (hq.symm.trans h)) h ((by intro h; cases h))⟩
set_option maxHeartbeats 4000000 in
theorem ent_s {p q5:Nat} {r:RS} {H:Heap} (hr:SD H p r) (hq5:q5≠p) (gn:Int) (vx:AV) (k5:hget H q5=sobj gn vx ((.pv (.sl .nil 0 [])))) (i:Nat) (hi:i≤100) (E:List PV) (hx:AppV H vx .nil 10 i E) (hgx:TokGe (p+1) vx) (a2 a6 a7:AV) (r0:Regs) :
 Has (evK env (EE env) BODY1 Res (setL r0 (La a2 p (.ptr q5 0) a6 a7)) H (blockK 1 doneK)) (fun x=>x.1 = .normal∧Agr x.2.1 (La a2 p (.ptr q5 0) a6 a7) ∧
  ∃ vx',SD x.2.2 p (gE r).2∧hget x.2.2 q5=sobj gn vx' ((.pv (.sl .nil 0 [])))∧AppV x.2.2 vx' .nil 10 (i+1) (E++en (gE r).1)∧TokGe (p+1) vx'∧(∀ j o,j≠p→j≠q5→hget H j = .pcells o→hget x.2.2 j = .pcells o)):=by
 have hpl:=hr.lt
 have hql:=ap k5 aX.1
 refine head_ok hr _ _ _ _ r0 _ (fun q9 G r1 hq9 hr1 k9 K=>?_)
 replace k5:=K.obj hq5 k5 aX.1
 replace hx:=AppV.krn hx K hr
 have keep:∀ j o,j≠p→hget H j = .pcells o→hget G j = .pcells o:=fun j o hj ho=>K.obj hj ho ((by intro h; cases h))
 have hk6:=gN_le 6 (gN 2 (gS (gT 16 r).2).2).2
 rw [gE_eq]
 generalize gT 16 r=gt at *
 generalize gS gt.2=gs at *
 generalize gN 2 gs.2=gp at *
 generalize gN 6 gp.2=gk at *
 refine aV (σ:=AV × AV × Heap) (fun _=>Lb a2 p (.ptr q5 0) a6 a7 q9) (fun t=>t.2.2) (fun t=>EO p q9 G t.2.2 (gCs gk.2 gk.1).2 gt.1 gs.1 gp.1 t.1 t.2.1 0 0 gk.1 (flat ct ((gCs gk.2 gk.1).1.map (·.1))) (flat ct ((gCs gk.2 gk.1).1.map (·.2)))) ?_ (fun ⟨v,w,G2⟩ ho r2=>?_)
 ·refine (loopC_ok hr1 (by omega) gt.1 gs.1 gp.1 k9 gk.1 hk6 _ _ _ _ r1).mono (fun x hx=>?_)
  obtain ⟨h1,h2,v,w,h3⟩:=hx
  exact ⟨h1,(v,w,x.2.2),h3,h2,rfl⟩
 dsimp only at ho ⊢
 have hlen:=gCs_len gk.2 gk.1
 have hl1:((gCs gk.2 gk.1).1.map (·.1)).length=gk.1:=by rw [List.length_map,hlen]
 have hl2:((gCs gk.2 gk.1).1.map (·.2)).length=gk.1:=by rw [List.length_map,hlen]
 generalize (gCs gk.2 gk.1).1.map (·.1)=A at *
 generalize (gCs gk.2 gk.1).1.map (·.2)=B at *
 generalize (gCs gk.2 gk.1).2=r4 at *
 refine aV (σ:=Heap) (fun _=>Lb a2 p (.ptr q5 0) a6 a7 q9) (fun G=>G) (fun G3=>EO p q9 G G3 (gN 1099511627776 r4).2 gt.1 gs.1 gp.1 v w (gN 1099511627776 r4).1 0 gk.1 (flat ct A) (flat ct B)) (age_ok ho (by omega) _ _ _ _ r2) (fun G3 ho r3=>?_)
 generalize gN 1099511627776 r4=ga at *
 refine aV (σ:=Heap) (fun _=>Lb a2 p (.ptr q5 0) a6 a7 q9) (fun G=>G) (fun G3=>EO p q9 G G3 (gN 63 ga.2).2 gt.1 gs.1 gp.1 v w ga.1 (gN 63 ga.2).1 gk.1 (flat ct A) (flat ct B)) (due_ok ho (by omega) _ _ _ _ r3) (fun G4 ho r4=>?_)
 generalize gN 63 ga.2=gd at *
 obtain ⟨hr4,k94,hv,hw,K2⟩:=ho
 have k54:=K2.obj hq5 (by omega) k5 aX.1
 have hx4:=AppV.k2 hx K2 hr1 k9 eobj_ne.2
 refine (grow_ok hr4 hq5 gt.1 gs.1 gp.1 ga.1 gd.1 v w vx k94 (by omega) gk.1 A B hl1 hl2 hv hw gn k54 i hi E hx4 hgx a2 a6 a7 r4).mono (fun x hx=>?_)
 obtain ⟨h1,h2,vx',h3,h4,h5,h6,h7,_⟩:=hx
 exact ⟨h1,h2,vx',h3,h4,h5,h6,fun j o hj hj5 ho=>h7 j o hj5 (K2.obj hj (fun e=>by have:=ap ho ((by intro h; cases h)); omega) (keep j o hj ho) ((by intro h; cases h)))⟩
end Go.Proofs.YtflfdglnelbbiaaGreat
namespace Go.Proofs.YtflfdglnelbbiaaGreat
open Go Go.VM
abbrev LOOP2:VCode:=c35.at [1,1,1,1,1,1,1,0]
abbrev BODY2:VCode:=LOOP2.at [1,0,0,1,0,0]
def Ld (a2:AV) (p:Nat) (a5 a6 a14:AV):List (Nat × AV):=[(2,a2),(4,.ptr p 0),(5,a5),(6,a6),(14,a14)]
def ho (a b:List UInt8) (k:Int) (sp:List Int):HObj:=.pcells (hoc ⟨⟨a,b,k⟩,sp⟩)
set_option maxHeartbeats 4000000 in
theorem hfill_ok {p:Nat} {r:RS} {H:Heap} (h:SD H p r) (a2 a5 a6 a14:AV) (r0:Regs) {Q:Res→Prop} (k:Ex→Regs→Heap→Option Res)
 (hb:∀ (G:Heap) (r1:Regs),CS p H.length H G (gH r).2 (.pcells (hoc (gH r).1)) →
   Has (evK env (EE env) (BODY2.at [1,1,1,1,1]) Res (setL r1 (((15,.ptr H.length 0)::Ld a2 p a5 a6 a14))) G k) Q) :
 Has (evK env (EE env) BODY2 Res (setL r0 (Ld a2 p a5 a6 a14)) H k) Q:=by
 have hl:=h.lt
 have hgH:gH r=(⟨⟨(gT 16 r).1,(gT 16 (gT 16 r).2).1,(gN 1 (gT 16 (gT 16 r).2).2).1⟩,(gI (gN 1 (gT 16 (gT 16 r).2).2).2 8).1⟩,(gI (gN 1 (gT 16 (gT 16 r).2).2).2 8).2):=rfl
 rw [hgH] at hb
 clear hgH
 refine aV (σ:=Heap) (fun _=>(((15,.ptr H.length 0)::Ld a2 p a5 a6 a14))) (fun G=>G) (fun G=>CS p H.length H G r (ho [] [] 0 z8)) ?_ (fun G hG r0=>?_)
 ·exact Has.intro ⟨rfl,_,⟨h.app _,ak H _,KR.app p H _⟩,(⟨rfl,rfl,rfl,rfl,rfl,rfl,trivial⟩),rfl⟩
 refine aV (σ:=Heap) (fun _=>(((15,.ptr H.length 0)::Ld a2 p a5 a6 a14))) (fun G=>G) (fun G=>CS p H.length H G (gT 16 r).2 (ho (gT 16 r).1 [] 0 z8)) ?_ (fun G hG r0=>?_)
 ·refine am ((stxt_rd hG.1).mono fun z hz=>?_)
  have h2:=hG.call ((by intro h; cases h)) hl (Nat.le_refl _) hz
  obtain ⟨v,G2⟩:=z
  obtain ⟨rfl,_,_⟩:=hz
  refine a8 _ h2.2.1 ?_
  refine aa rfl ?_
  refine a9 (hoc ⟨⟨(gT 16 r).1,[],0⟩,z8⟩) rfl ?_
  exact Has.intro ⟨rfl,_,h2.put ((by intro h; cases h)) hl (Nat.le_refl _) _,(⟨rfl,rfl,rfl,rfl,rfl,rfl,trivial⟩),rfl⟩
 generalize gT 16 r=ga at *
 refine aV (σ:=Heap) (fun _=>(((15,.ptr H.length 0)::Ld a2 p a5 a6 a14))) (fun G=>G) (fun G=>CS p H.length H G (gT 16 ga.2).2 (ho ga.1 (gT 16 ga.2).1 0 z8)) ?_ (fun G hG r0=>?_)
 ·refine am ((stxt_rd hG.1).mono fun z hz=>?_)
  have h2:=hG.call ((by intro h; cases h)) hl (Nat.le_refl _) hz
  obtain ⟨v,G2⟩:=z
  obtain ⟨rfl,_,_⟩:=hz
  refine a8 _ h2.2.1 ?_
  refine aa rfl ?_
  refine a9 (hoc ⟨⟨ga.1,(gT 16 ga.2).1,0⟩,z8⟩) rfl ?_
  exact Has.intro ⟨rfl,_,h2.put ((by intro h; cases h)) hl (Nat.le_refl _) _,(⟨rfl,rfl,rfl,rfl,rfl,rfl,trivial⟩),rfl⟩
 generalize gT 16 ga.2=gb at *
 refine aV (σ:=Heap) (fun _=>(((15,.ptr H.length 0)::Ld a2 p a5 a6 a14))) (fun G=>G) (fun G=>CS p H.length H G (gN 1 gb.2).2 (ho ga.1 gb.1 (gN 1 gb.2).1 z8)) ?_ (fun G hG r0=>?_)
 ·have:=gN_le 1 gb.2
  refine am ((snum_rd hG.1 1 (by decide)).mono fun z hz=>?_)
  have h2:=hG.call ((by intro h; cases h)) hl (Nat.le_refl _) hz
  obtain ⟨v,G2⟩:=z
  obtain ⟨rfl,_,_⟩:=hz
  refine a9 ((gN 1 gb.2).1:Int) (wrap_i64 (by omega) (by omega)) ?_
  refine a8 _ h2.2.1 ?_
  refine aa rfl ?_
  refine a9 (hoc ⟨⟨ga.1,gb.1,(gN 1 gb.2).1⟩,z8⟩) rfl ?_
  exact Has.intro ⟨rfl,_,h2.put ((by intro h; cases h)) hl (Nat.le_refl _) _,(⟨rfl,rfl,rfl,rfl,rfl,rfl,trivial⟩),rfl⟩
 generalize gN 1 gb.2=gk at *
 refine aV (σ:=Heap) (fun _=>(((15,.ptr H.length 0)::Ld a2 p a5 a6 a14))) (fun G=>G) (fun G=>CS p H.length H G (gI gk.2 8).2 (ho ga.1 gb.1 gk.1 (gI gk.2 8).1)) ?_ (fun G hG r0=>hb G r0 hG)
 refine aw ?_
 refine aC (σ:=Nat × Heap) (fun t=>8-t.1) (fun t=>(16,.pv (.int .i64 (t.1:Int)))::(((15,.ptr H.length 0)::Ld a2 p a5 a6 a14))) (fun t=>t.2)
  (fun t=>t.1≤8∧CS p H.length H t.2 (gI gk.2 t.1).2 (ho ga.1 gb.1 gk.1 (gI gk.2 t.1).1))
  (fun ⟨j,G⟩ ⟨hj,hG⟩ r'=>?_) (0,G) ⟨Nat.zero_le _,hG⟩ ⟨rfl,rfl,rfl,rfl,rfl,rfl,rfl,trivial⟩ rfl
 dsimp only at hj hG ⊢
 refine ah (fun hc2=>?_) (fun hc2=>?_)
 ·have:=gN_le 1073741824 (gI gk.2 j).2
  refine am ((snum_rd hG.1 1073741824 (by decide)).mono fun z hz=>?_)
  have h2:=hG.call ((by intro h; cases h)) hl (Nat.le_refl _) hz
  obtain ⟨v,G2⟩:=z
  obtain ⟨rfl,_,_⟩:=hz
  dsimp only at h2 ⊢
  refine a9 ((gN 1073741824 (gI gk.2 j).2).1:Int) (wrap_i64 (by omega) (by omega)) ?_
  refine aa (by (first | rfl | (simp; done) | (simp; omega))) ?_
  refine a8 _ h2.2.1 ?_
  refine aa (hoc_idx (gI_len gk.2 j) (by omega)) ?_
  refine a9 _ (hoc_set _ _ _ _) ?_
  refine a9 _ (aq (by omega)) ?_
  exact Has.intro ⟨(j+1,_),⟨by omega,h2.put ((by intro h; cases h)) hl (Nat.le_refl _) _⟩,(by dsimp only; omega),⟨rfl,rfl,rfl,rfl,rfl,rfl,rfl,trivial⟩,rfl⟩
 ·have hj8:j=8:=by omega
  subst hj8
  refine Has.intro ?_
  exact Has.intro ⟨rfl,G,hG,(⟨rfl,rfl,rfl,rfl,rfl,rfl,trivial⟩),rfl⟩
theorem gH_eight (r:RS):(gH r).1.sp.length=8:=gI_len _ 8
set_option maxHeartbeats 4000000 in
theorem hold_s {p q5:Nat} {r:RS} {H:Heap} (hr:SD H p r) (hq5:q5≠p) (gn:Int) (v w:AV) (k5:hget H q5=sobj gn v w) (n:Nat) (E:List PV) (hv:AppV H v .nil 10 n E) (i:Nat) (hi:i≤400) (F:List PV) (hw:AppV H w .nil 11 i F)
 (hd:tokOf v=none∨tokOf v≠tokOf w) (hgw:TokGe (p+1) w) (a2 a6 a14:AV) (r0:Regs) :
 Has (evK env (EE env) BODY2 Res (setL r0 (Ld a2 p (.ptr q5 0) a6 a14)) H (blockK 5 doneK)) (fun x=>x.1 = .normal∧Agr x.2.1 (Ld a2 p (.ptr q5 0) a6 a14) ∧
  ∃ w',SD x.2.2 p (gH r).2∧hget x.2.2 q5=sobj gn v w'∧AppV x.2.2 v .nil 10 n E∧AppV x.2.2 w' .nil 11 (i+1) (F++hoc (gH r).1)∧(tokOf v=none∨tokOf v≠tokOf w')∧TokGe (p+1) w'∧(∀ j o,j≠p→j≠q5→hget H j = .pcells o→hget x.2.2 j = .pcells o)):=by
 have hpl:=hr.lt
 refine hfill_ok hr _ _ _ _ r0 _ (fun G r1 hG=>?_)
 obtain ⟨hr1,k15,K⟩:=hG
 have hql:=ap k5 aX.1
 replace k5:=K.obj hq5 k5 aX.1
 replace hv:=AppV.krn hv K hr
 replace hw:=AppV.krn hw K hr
 have keep:∀ j o,j≠p→hget H j = .pcells o→hget G j = .pcells o:=fun j o hj ho=>K.obj hj ho ((by intro h; cases h))
 have h8:=gH_eight r
 generalize gH r=gh at *
 obtain ⟨⟨o,sp⟩,r8⟩:=gh
 dsimp only at h8 hr1 k15 ⊢
 obtain ⟨x0,x1,x2,x3,x4,x5,x6,x7,rfl⟩:=eight h8
 rcases formsG hv with ⟨hz,hcs,hve⟩ | ⟨hz,t,hve⟩
 all_goals
  rcases formsG hw with ⟨hz2,hcs2,hwe⟩ | ⟨hz2,t2,hwe⟩
 all_goals
  have k5l:=k5
  have hwl:=hw
  rw [hve,hwe] at k5l
  rw [hwe] at hwl
  refine a8 _ k5l ?_
  first
   | refine ab rfl ?_
   | skip
  refine a8 _ k15 ?_
  refine ae (v:=hoc ⟨o,[x0,x1,x2,x3,x4,x5,x6,x7]⟩) rfl (of_decide_eq_true rfl) ?_
  refine app_has (m:=1) (new:=hoc ⟨o,[x0,x1,x2,x3,x4,x5,x6,x7]⟩) hwl rfl (by show (i+1)*104≤140737488355328; omega) (fun w2 G2 hw2 hf ht=>?_)
  rw [←hwe] at hf ht
  obtain ⟨hv2,hd2⟩:=app_other hv hd hf ht
  have k5':=Fr.obj hw hf k5 aX.1 aX.2
  have hr':=hr1.fr hf hgw (Nat.lt_succ_self p)
  have hgw':=hgw.app (Nat.succ_le_of_lt hr1.lt) ht
  rcases formsG hw2 with ⟨hz3,_⟩ | ⟨hz3,t3,rfl⟩
  ·omega
  have k5'l:=k5'
  rw [hve,hwe] at k5'l
  refine a8 _ k5'l ?_
  refine Has.intro ⟨rfl,⟨rfl,rfl,rfl,rfl,rfl,trivial⟩,.tsl t3 (i+1) (F++hoc ⟨o,[x0,x1,x2,x3,x4,x5,x6,x7]⟩),hr'.set _ hq5,?_,b9 hv2 _ k5' aX.2,b9 hw2 _ k5' aX.2,hd2,hgw',fun j ob hj hj5 ho=>?_⟩
  ·rw [hve]; exact ai _ (ap k5' aX.1)
  ·exact (an _ _ hj5).trans (Fr.obj hw hf (keep j ob hj ho) ((by intro h; cases h)) ((fun _ _ h=>by cases h)))
end Go.Proofs.YtflfdglnelbbiaaGreat
namespace Go.Proofs.YtflfdglnelbbiaaGreat
open Go Go.VM
def kE (b:List UInt8):Nat × RS:=gN 16 (gN 1099511627776 (b,0)).2
def kH (b:List UInt8) (i:Nat):Nat × RS:=gN 192 (gEs (kE b).2 i).2
theorem gSt_eq (b:List UInt8):gSt b=(⟨(gN 1099511627776 (b,0)).1,(gEs (kE b).2 (kE b).1).1,(gHs (kH b (kE b).1).2 (kH b (kE b).1).1).1⟩,(gHs (kH b (kE b).1).2 (kH b (kE b).1).1).2):=rfl
theorem gst_stop (b:List UInt8) (i j:Nat) (hi:i≤(kE b).1) (h1:i=(kE b).1∨(gEs (kE b).2 i).2.2≠0) (hj:j≤(kH b i).1) (h2:j=(kH b i).1∨(gHs (kH b i).2 j).2.2≠0) :
 (gSt b).2=(gHs (kH b i).2 j).2∧((gHs (kH b i).2 j).2.2=0→(gSt b).1=⟨(gN 1099511627776 (b,0)).1,(gEs (kE b).2 i).1,(gHs (kH b i).2 j).1⟩):=by
 rw [gSt_eq]
 by_cases he:(gEs (kE b).2 i).2.2=0
 ·have hik:i=(kE b).1:=by
   rcases h1 with h | h
   ·exact h
   ·exact absurd he h
  rw [←hik]
  rcases h2 with h2 | h2
  ·rw [←h2]
   exact ⟨rfl,fun _=>rfl⟩
  ·obtain ⟨d,hd⟩:=Nat.le.dest hj
   refine ⟨?_,fun h=>absurd h h2⟩
   rw [←hd]
   exact gHs_stop h2 d
 ·obtain ⟨d,hd⟩:=Nat.le.dest hi
  have hE:(gEs (kE b).2 (kE b).1).2=(gEs (kE b).2 i).2:=by
   conv=>lhs; rw [←hd]
   exact gEs_stop he d
  have hK:kH b (kE b).1=kH b i:=by unfold kH; rw [hE]
  have hM:kH b i=(0,(gEs (kE b).2 i).2):=gN_err he 192
  have hj0:j=0:=by rw [hM] at hj; exact Nat.le_zero.1 hj
  subst hj0
  rw [hK,hM]
  refine ⟨rfl,fun h=>absurd h he⟩
theorem getS_of (b:List UInt8) (r:RS) (s:St) (h1:(gSt b).2=r) (h2:r.2=0→(gSt b).1=s) :
 getS b=if T.rEnd r.1 r.2≠0 then (s0,T.rEnd r.1 r.2) else if rightP s then (s,0) else (s0,11):=by
 unfold getS
 rw [h1]
 by_cases he:T.rEnd r.1 r.2=0
 ·have hr:r.2=0:=by
   unfold T.rEnd at he
   split at he
   ·cases he
   ·exact he
  rw [h2 hr]
 ·rw [if_pos he,if_pos he]
def Lg (a6:AV):List (Nat × AV):=[(2,.ptr 0 0),(4,.ptr 1 0),(5,.ptr 2 0),(6,a6)]
set_option maxHeartbeats 4000000 in
theorem loop1_ok (gn:Int) (g:RS) (k:Nat) (hk:k≤16) {H:Heap} (hr:SD H 1 g) (k0:hget H 0 = .pcells ([.int .i64 0,.sl .nil 0 [],.sl .nil 0 []])) (k2:hget H 2=sobj gn ((.pv (.sl .nil 0 []))) ((.pv (.sl .nil 0 [])))) (r0:Regs) :
 Has (evK env (EE env) LOOP1 Res (setL r0 (Lg (.pv (.int .i64 (k:Int))))) H doneK) (fun x=>x.1 = .normal ∧ ∃ t:Nat × AV × Heap,(t.1≤k∧(t.1=k∨(gEs g t.1).2.2≠0)∧SD t.2.2 1 (gEs g t.1).2∧hget t.2.2 0 = .pcells ([.int .i64 0,.sl .nil 0 [],.sl .nil 0 []])∧hget t.2.2 2=sobj gn t.2.1 ((.pv (.sl .nil 0 [])))∧AppV t.2.2 t.2.1 .nil 10 t.1 (flat en (gEs g t.1).1))
  ∧ Agr x.2.1 [(2,.ptr 0 0),(4,.ptr 1 0),(5,.ptr 2 0)]∧x.2.2=t.2.2):=by
 refine aw ?_
 refine aC (σ:=Nat × AV × Heap) (fun t=>k-t.1) (fun t=>La (.ptr 0 0) 1 (.ptr 2 0) (.pv (.int .i64 (k:Int))) (.pv (.int .i64 (t.1:Int)))) (fun t=>t.2.2)
  (fun t=>t.1≤k∧SD t.2.2 1 (gEs g t.1).2∧hget t.2.2 0 = .pcells ([.int .i64 0,.sl .nil 0 [],.sl .nil 0 []])∧hget t.2.2 2=sobj gn t.2.1 ((.pv (.sl .nil 0 [])))∧AppV t.2.2 t.2.1 .nil 10 t.1 (flat en (gEs g t.1).1)∧TokGe 2 t.2.1)
  (fun ⟨i,v,G⟩ ⟨hi,hr,k0,k2,hv,hg⟩ r'=>?_) (0,((.pv (.sl .nil 0 []))),H) ⟨Nat.zero_le _,hr,k0,k2,AppV.new rfl,fun t e=>by cases e⟩ ⟨rfl,rfl,rfl,rfl,rfl,trivial⟩ rfl
 dsimp only at hi hr k0 k2 hv hg ⊢
 show Has (evK env (EE env) (LOOP1.at [1,0,0]) Res (setL r' (La (.ptr 0 0) 1 (.ptr 2 0) (.pv (.int .i64 (k:Int))) (.pv (.int .i64 (i:Int))))) G doneK) _
 refine seq_join (fun e r h=>h=G∧Agr r (La (.ptr 0 0) 1 (.ptr 2 0) (.pv (.int .i64 (k:Int))) (.pv (.int .i64 (i:Int))))∧((e = .normal∧i<k)∨(e = .exit 0∧(i=k∨(gEs g i).2.2≠0)))) ?_ (fun e r h hj=>?_)
 ·refine ah (fun hc=>?_) (fun hc=>?_)
  ·refine a8 _ hr.1 ?_
   refine ab rfl ?_
   refine aP (fun h1=>?_) (fun h1=>?_)
   ·exact Has.intro ⟨rfl,⟨rfl,rfl,rfl,rfl,rfl,trivial⟩,.inl ⟨rfl,by omega⟩⟩
   ·exact Has.intro ⟨rfl,⟨rfl,rfl,rfl,rfl,rfl,trivial⟩,.inr ⟨rfl,.inr h1⟩⟩
  ·exact Has.intro ⟨rfl,⟨rfl,rfl,rfl,rfl,rfl,trivial⟩,.inr ⟨rfl,.inl (by omega)⟩⟩
 obtain ⟨rfl,hA,hj⟩:=hj
 rw [←hA.eq]
 rcases hj with ⟨rfl,hlt⟩ | ⟨rfl,hge⟩
 ·show Has (evK env (EE env) (LOOP1.at [1,0,0,1]) Res _ _ doneK) _
  refine aV (σ:=AV × Heap) (fun _=>La (.ptr 0 0) 1 (.ptr 2 0) (.pv (.int .i64 (k:Int))) (.pv (.int .i64 (i:Int)))) (fun t=>t.2)
   (fun t=>SD t.2 1 (gEs g (i+1)).2∧hget t.2 0 = .pcells ([.int .i64 0,.sl .nil 0 [],.sl .nil 0 []])∧hget t.2 2=sobj gn t.1 ((.pv (.sl .nil 0 [])))∧AppV t.2 t.1 .nil 10 (i+1) (flat en (gEs g (i+1)).1)∧TokGe 2 t.1) ?_ (fun ⟨v',G'⟩ ⟨hr',k0',k2',hv',hg'⟩ r=>?_)
  ·refine (ent_s hr (by decide) gn v k2 i (by omega) _ hv hg _ _ _ r).mono (fun x hx=>?_)
   obtain ⟨h1,h2,vx',h3,h4,h5,h6,h7⟩:=hx
   refine ⟨h1,(vx',x.2.2),⟨h3,h7 0 _ (by decide) (by decide) k0,h4,?_,h6⟩,h2,rfl⟩
   show AppV _ _ _ _ _ (flat en ((gEs g i).1++[_]))
   rw [←flat_snoc]; exact h5
  ·refine a9 _ (aq (by omega)) ?_
   exact Has.intro ⟨(i+1,v',G'),⟨hlt,hr',k0',k2',hv',hg'⟩,by dsimp only; omega,⟨rfl,rfl,rfl,rfl,rfl,trivial⟩,rfl⟩
 ·refine Has.intro ?_
  exact Has.intro ⟨rfl,(i,v,h),⟨hi,hge,hr,k0,k2,hv⟩,⟨rfl,rfl,rfl,trivial⟩,rfl⟩
set_option maxHeartbeats 4000000 in
theorem loop2_ok (gn:Int) (g:RS) (k:Nat) (hk:k≤192) {H:Heap} (hr:SD H 1 g) (k0:hget H 0 = .pcells ([.int .i64 0,.sl .nil 0 [],.sl .nil 0 []])) (v:AV) (n:Nat) (E:List PV) (hv:AppV H v .nil 10 n E) (k2:hget H 2=sobj gn v ((.pv (.sl .nil 0 [])))) (r0:Regs) :
 Has (evK env (EE env) LOOP2 Res (setL r0 (Lg (.pv (.int .i64 (k:Int))))) H doneK) (fun x=>x.1 = .normal ∧ ∃ t:Nat × AV × Heap,(t.1≤k∧(t.1=k∨(gHs g t.1).2.2≠0)∧SD t.2.2 1 (gHs g t.1).2∧hget t.2.2 0 = .pcells ([.int .i64 0,.sl .nil 0 [],.sl .nil 0 []])∧hget t.2.2 2=sobj gn v t.2.1∧AppV t.2.2 v .nil 10 n E∧AppV t.2.2 t.2.1 .nil 11 t.1 (flat hoc (gHs g t.1).1))
  ∧ Agr x.2.1 [(2,.ptr 0 0),(4,.ptr 1 0),(5,.ptr 2 0)]∧x.2.2=t.2.2):=by
 refine aw ?_
 refine aC (σ:=Nat × AV × Heap) (fun t=>k-t.1) (fun t=>Ld (.ptr 0 0) 1 (.ptr 2 0) (.pv (.int .i64 (k:Int))) (.pv (.int .i64 (t.1:Int)))) (fun t=>t.2.2)
  (fun t=>t.1≤k∧SD t.2.2 1 (gHs g t.1).2∧hget t.2.2 0 = .pcells ([.int .i64 0,.sl .nil 0 [],.sl .nil 0 []])∧hget t.2.2 2=sobj gn v t.2.1∧AppV t.2.2 v .nil 10 n E∧AppV t.2.2 t.2.1 .nil 11 t.1 (flat hoc (gHs g t.1).1)∧(tokOf v=none∨tokOf v≠tokOf t.2.1)∧TokGe 2 t.2.1)
  (fun ⟨i,w,G⟩ ⟨hi,hr,k0,k2,hv,hw,hd,hg⟩ r'=>?_) (0,((.pv (.sl .nil 0 []))),H) ⟨Nat.zero_le _,hr,k0,k2,hv,AppV.new rfl,?_,fun t e=>by cases e⟩ ⟨rfl,rfl,rfl,rfl,rfl,trivial⟩ rfl
 rotate_left
 ·cases hh:tokOf v with
  | none=>exact .inl rfl
  | some t=>exact .inr (by intro e; cases e)
 dsimp only at hi hr k0 k2 hv hw hd hg ⊢
 show Has (evK env (EE env) (LOOP2.at [1,0,0]) Res (setL r' (Ld (.ptr 0 0) 1 (.ptr 2 0) (.pv (.int .i64 (k:Int))) (.pv (.int .i64 (i:Int))))) G doneK) _
 refine seq_join (fun e r h=>h=G∧Agr r (Ld (.ptr 0 0) 1 (.ptr 2 0) (.pv (.int .i64 (k:Int))) (.pv (.int .i64 (i:Int))))∧((e = .normal∧i<k)∨(e = .exit 4∧(i=k∨(gHs g i).2.2≠0)))) ?_ (fun e r h hj=>?_)
 ·refine ah (fun hc=>?_) (fun hc=>?_)
  ·refine a8 _ hr.1 ?_
   refine ab rfl ?_
   refine aP (fun h1=>?_) (fun h1=>?_)
   ·exact Has.intro ⟨rfl,⟨rfl,rfl,rfl,rfl,rfl,trivial⟩,.inl ⟨rfl,by omega⟩⟩
   ·exact Has.intro ⟨rfl,⟨rfl,rfl,rfl,rfl,rfl,trivial⟩,.inr ⟨rfl,.inr h1⟩⟩
  ·exact Has.intro ⟨rfl,⟨rfl,rfl,rfl,rfl,rfl,trivial⟩,.inr ⟨rfl,.inl (by omega)⟩⟩
 obtain ⟨rfl,hA,hj⟩:=hj
 rw [←hA.eq]
 rcases hj with ⟨rfl,hlt⟩ | ⟨rfl,hge⟩
 ·show Has (evK env (EE env) (LOOP2.at [1,0,0,1]) Res _ _ doneK) _
  refine aV (σ:=AV × Heap) (fun _=>Ld (.ptr 0 0) 1 (.ptr 2 0) (.pv (.int .i64 (k:Int))) (.pv (.int .i64 (i:Int)))) (fun t=>t.2)
   (fun t=>SD t.2 1 (gHs g (i+1)).2∧hget t.2 0 = .pcells ([.int .i64 0,.sl .nil 0 [],.sl .nil 0 []])∧hget t.2 2=sobj gn v t.1∧AppV t.2 v .nil 10 n E∧AppV t.2 t.1 .nil 11 (i+1) (flat hoc (gHs g (i+1)).1)∧(tokOf v=none∨tokOf v≠tokOf t.1)∧TokGe 2 t.1) ?_ (fun ⟨w',G'⟩ ⟨hr',k0',k2',hv',hw',hd',hg'⟩ r=>?_)
  ·refine (hold_s hr (by decide) gn v w k2 n E hv i (by omega) _ hw hd hg _ _ _ r).mono (fun x hx=>?_)
   obtain ⟨h1,h2,w',h3,h4,h5,h6,h7,h8,h9⟩:=hx
   refine ⟨h1,(w',x.2.2),⟨h3,h9 0 _ (by decide) (by decide) k0,h4,h5,?_,h7,h8⟩,h2,rfl⟩
   show AppV _ _ _ _ _ (flat hoc ((gHs g i).1++[_]))
   rw [←flat_snoc]; exact h6
  ·refine a9 _ (aq (by omega)) ?_
   exact Has.intro ⟨(i+1,w',G'),⟨hlt,hr',k0',k2',hv',hw',hd',hg'⟩,by dsimp only; omega,⟨rfl,rfl,rfl,rfl,rfl,trivial⟩,rfl⟩
 ·refine Has.intro ?_
  exact Has.intro ⟨rfl,(i,w,h),⟨hi,hge,hr,k0,k2,hv,hw⟩,⟨rfl,rfl,rfl,trivial⟩,rfl⟩
end Go.Proofs.YtflfdglnelbbiaaGreat
