/-
  Part 5 of the functions and the law.
  Numbers that are read.
  A reader's functions.
  A reader: numbers, texts, flags, the end.
  What must be answered ahead of everything else; TapeWrites in the abstract machine.
  What is read is what was written.
  Pods that are kin.
  Right entries.
  Entries found by their names; owners in order.
  Right entries of a state: each age once.
  Right holds of a state; right states.
-/
import Derived.Test.YtflfdglnelbbiaaGreatP4
set_option linter.all false
set_option linter.unusedVariables false
set_option linter.unusedSimpArgs false
set_option linter.unusedSectionVars false
namespace Go.Proofs.YtflfdglnelbbiaaGreat.T
open Go Go.VM
def numF:Nat→Nat→List UInt8→Nat × Int × List UInt8
 | _,_,[]=>(0,10,[])
 | i,u,c::l=>if i=9∧c.toNat>1 then (0,11,[]) else if c.toNat=0∧i>0 then (0,11,[]) else if c.toNat<128 then (u+c.toNat*128 ^ i,0,l) else numF (i+1) (u+(c.toNat % 128)*128 ^ i) l
theorem numF_enc (rest:List UInt8):∀ (w i u:Nat),(w>0∨i=0)→w*128 ^ i<18446744073709551616→numF i u (enc w++rest)=(u+w*128 ^ i,0,rest):=by
 intro w
 induction w using Nat.strongRecOn with
 | ind w ih=>
   intro i u h0 hlt
   have hp:0<128 ^ i:=Nat.pow_pos (by decide)
   by_cases h:w<128
   ·rw [enc_lo h]
    show numF i u (UInt8.ofNat w::rest)=_
    unfold numF
    rw [u8_low h,if_neg,if_neg (by omega),if_pos h]
    rintro ⟨rfl,h1⟩
    have:(128:Nat) ^ 9=9223372036854775808:=rfl
    rw [this] at hlt
    omega
   ·rw [enc_hi h]
    show numF i u (UInt8.ofNat (w % 128+128)::(enc (w / 128)++rest))=_
    have hc:(UInt8.ofNat (w % 128+128)).toNat=w % 128+128:=by rw [UInt8.toNat_ofNat']; omega
    unfold numF
    rw [hc,if_neg,if_neg (by omega),if_neg (by omega)]
    ·have hps:128 ^ (i+1)=128 ^ i*128:=Nat.pow_succ ..
     have hm:w / 128*(128 ^ i*128)≤w*128 ^ i:=by
      rw [Nat.mul_comm (128 ^ i) 128,←Nat.mul_assoc]
      exact Nat.mul_le_mul_right _ (Nat.div_mul_le_self w 128)
     rw [ih (w / 128) (by omega) (i+1) _ (.inl (by omega)) (by rw [hps]; omega),hps]
     congr 1
     have e:(w % 128+128) % 128=w % 128:=by omega
     rw [e]
     have e2:w*128 ^ i=(w % 128)*128 ^ i+w / 128*(128 ^ i*128):=by
      rw [Nat.mul_comm (128 ^ i) 128,←Nat.mul_assoc,←Nat.add_mul]
      congr 1; omega
     omega
    ·rintro ⟨rfl,_⟩
     have:(128:Nat) ^ 9=9223372036854775808:=rfl
     rw [this] at hlt
     omega
theorem numF_dec:∀ (bs:List UInt8) (i u v:Nat) (rest:List UInt8),i≤9→numF i u bs=(v,0,rest)→∃ w,bs=enc w++rest∧v=u+w*128 ^ i∧(w>0∨i=0)∧w*128 ^ i<18446744073709551616:=by
 intro bs
 induction bs with
 | nil=>intro i u v rest _ h; unfold numF at h; simp at h
 | cons c l ih=>
   intro i u v rest hi h
   have hc:=c.toNat_lt
   unfold numF at h
   by_cases h1:i=9∧c.toNat>1
   ·rw [if_pos h1] at h; simp at h
   rw [if_neg h1] at h
   by_cases h2:c.toNat=0∧i>0
   ·rw [if_pos h2] at h; simp at h
   rw [if_neg h2] at h
   have hpi:i<9→128 ^ i≤72057594037927936:=fun h=>by
    have:128 ^ i≤128 ^ 8:=Nat.pow_le_pow_right (by decide) (by omega)
    exact this
   have hp9:(128:Nat) ^ 9=9223372036854775808:=rfl
   by_cases h3:c.toNat<128
   ·rw [if_pos h3] at h
    injection h with e1 e2; injection e2 with e2 e3
    subst e1; subst e3
    refine ⟨c.toNat,?_,rfl,by omega,?_⟩
    ·rw [enc_lo h3]
     simp
    ·by_cases h9:i=9
     ·subst h9
      rw [hp9]
      have:c.toNat≤1:=by omega
      omega
     ·have:=hpi (by omega)
      have h4:c.toNat*128 ^ i≤127*72057594037927936:=Nat.mul_le_mul (by omega) this
      omega
   ·rw [if_neg h3] at h
    have hi8:i<9:=by omega
    obtain ⟨w,e1,e2,e3,e4⟩:=ih (i+1) _ v rest (by omega) h
    have hw:w>0:=by omega
    have hps:128 ^ (i+1)=128 ^ i*128:=Nat.pow_succ ..
    have hwd:(c.toNat % 128+w*128) / 128=w:=by omega
    have hwm:(c.toNat % 128+w*128) % 128=c.toNat % 128:=by omega
    have hmul:(c.toNat % 128+w*128)*128 ^ i=(c.toNat % 128)*128 ^ i+w*128 ^ (i+1):=by
     rw [hps,Nat.add_mul,Nat.mul_assoc,Nat.mul_comm 128]
    refine ⟨c.toNat % 128+w*128,?_,by rw [e2,hmul]; omega,.inl (by omega),?_⟩
    ·rw [enc_hi (by omega),hwd,hwm,e1]
     show c::(enc w++rest)=UInt8.ofNat (c.toNat % 128+128)::(enc w++rest)
     rw [show c.toNat % 128+128=c.toNat by omega]
     simp
    ·rw [hmul]
     have h5:(c.toNat % 128)*128 ^ i<128 ^ (i+1):=by
      rw [hps,Nat.mul_comm (128 ^ i) 128]
      exact Nat.mul_lt_mul_of_pos_right (Nat.mod_lt _ (by decide)) (Nat.pow_pos (by decide))
     by_cases h8:i=8
     ·have e9:128 ^ (i+1)=9223372036854775808:=by rw [h8]
      rw [e9] at e4 h5
      rw [e9]
      omega
     ·have h6:128 ^ (i+1)≤72057594037927936:=by
       have:128 ^ (i+1)≤128 ^ 8:=Nat.pow_le_pow_right (by decide) (by omega)
       exact this
      have hdiv:128 ^ (i+1)*(2*128 ^ (8-i))=18446744073709551616:=by
       rw [Nat.mul_comm 2,←Nat.mul_assoc,←Nat.pow_add,show i+1+(8-i)=9 by omega]
      have hlt:w<2*128 ^ (8-i):=by
       rw [←hdiv,Nat.mul_comm (128 ^ (i+1))] at e4
       exact Nat.lt_of_mul_lt_mul_right e4
      have:(w+1)*128 ^ (i+1)≤18446744073709551616:=by
       rw [←hdiv,Nat.mul_comm (128 ^ (i+1))]
       exact Nat.mul_le_mul_right _ hlt
      rw [Nat.add_mul] at this
      omega
theorem numF_lt {bs rest:List UInt8} {v:Nat} (h:numF 0 0 bs=(v,0,rest)):v<18446744073709551616∧bs=enc v++rest:=by
 obtain ⟨w,e1,e2,_,e4⟩:=numF_dec bs 0 0 v rest (by decide) h
 simp at e2 e4
 subst e2
 exact ⟨e4,e1⟩
end Go.Proofs.YtflfdglnelbbiaaGreat.T
namespace Go.Proofs.YtflfdglnelbbiaaGreat.T
open Go Go.VM
def rdO (x:Ext) (bs:List UInt8) (e:Int):HObj:=.pcells [.sl x bs.length (bc bs),.int .i64 e]
theorem u8_and127:∀ c:Nat,c<256→IntKind.u8.wrap ((BitVec.ofInt IntKind.u8.bits (c:Int) &&& ~~~ BitVec.ofInt IntKind.u8.bits 128).toNat:Int)=((c % 128:Nat):Int):=by decide +kernel
theorem u64_orN {a b:Nat} (ha:a<18446744073709551616) (hb:b<18446744073709551616):IntKind.u64.wrap ((BitVec.ofInt IntKind.u64.bits (a:Int) ||| BitVec.ofInt IntKind.u64.bits (b:Int)).toNat:Int)=((a ||| b:Nat):Int):=by
 have e:∀ n:Nat,n<18446744073709551616→BitVec.ofInt 64 (n:Int)=BitVec.ofNat 64 n:=fun n _=>by rw [BitVec.ofInt_natCast]
 show IntKind.u64.wrap ((BitVec.ofInt 64 (a:Int) ||| BitVec.ofInt 64 (b:Int)).toNat:Int)=_
 rw [e a ha,e b hb,BitVec.toNat_or,BitVec.toNat_ofNat,BitVec.toNat_ofNat,Nat.mod_eq_of_lt ha,Nat.mod_eq_of_lt hb,aL]
 have:a ||| b<2 ^ 64:=Nat.or_lt_two_pow ha hb
 omega
theorem pow128 (i:Nat):2 ^ (7*i)=128 ^ i:=by rw [Nat.pow_mul]
theorem or_add {u x i:Nat} (h:u<128 ^ i):u ||| x*128 ^ i=u+x*128 ^ i:=by
 have:=Nat.shiftLeft_add_eq_or_of_lt (a:=x) (b:=u) (i:=7*i) (by rw [pow128]; exact h)
 rw [Nat.shiftLeft_eq,pow128] at this
 rw [Nat.or_comm,←this,Nat.add_comm]
set_option maxHeartbeats 1000000 in
theorem num_ok (p:Nat) (x:Ext) (bs:List UInt8) (hb:bs.length≤1000000) (e:Int) (H:Heap) (ht:hget H p=rdO x bs e) :
 Has (EE env (.fn 110) [.ptr p 0] H) (fun y=>y.1 = .pv (.tup [.int .u64 ((numF 0 0 bs).1:Nat),.int .i64 (numF 0 0 bs).2.1]) ∧
  (((numF 0 0 bs).2.1=0 ∧ ∃ x',y.2=hset H p (rdO x' (numF 0 0 bs).2.2 e))∨((numF 0 0 bs).2.1≠0∧y.2=H))):=by
 refine aK ?_
 refine a8 _ ht ?_
 refine ab rfl ?_
 refine aw ?_
 refine aC (σ:=Nat × Nat) (fun s=>bs.length-s.1) (fun s=>[(0,.ptr p 0),(4,.pv (.int .u64 (s.2:Int))),(10,.pv (.sl x bs.length (bc bs))),(11,.pv (.int .i64 bs.length)),(12,.pv (.int .i64 s.1))]) (fun _=>H)
  (fun s=>s.1≤bs.length∧s.1≤9∧s.2<128 ^ s.1∧numF 0 0 bs=numF s.1 s.2 (bs.drop s.1)) (fun ⟨i,u⟩ ⟨hi,hi9,hu,he⟩ r=>?_) (0,0) ⟨Nat.zero_le _,by decide,by decide,by rw [List.drop_zero]⟩ ⟨rfl,rfl,rfl,rfl,rfl,trivial⟩ rfl
 dsimp only at hi hi9 hu he ⊢
 refine ah (fun hc=>?_) (fun hc=>?_)
 ·have hlt:i<bs.length:=by omega
  obtain ⟨c,hcg⟩:∃ c,bs[i]? = some c:=⟨_,List.getElem?_eq_getElem hlt⟩
  have hd:bs.drop i=c::bs.drop (i+1):=by
   rw [List.drop_eq_getElem_cons hlt]
   rw [List.getElem?_eq_getElem hlt] at hcg; injection hcg with hcg; rw [hcg]
  have hc256:=c.toNat_lt
  rw [hd] at he
  have hp:=pow128 i
  have hpl:128 ^ i≤9223372036854775808:=by
   have:128 ^ i≤128 ^ 9:=Nat.pow_le_pow_right (by decide) hi9
   exact this
  have hpl8:i<9→128 ^ i≤72057594037927936:=fun h=>by
   have:128 ^ i≤128 ^ 8:=Nat.pow_le_pow_right (by decide) (by omega)
   exact this
  refine aa (by (first | rfl | (simp; done) | (simp; omega))) ?_
  refine ab (bc_get hcg) ?_
  refine a9 _ (u8_and127 _ (by omega)) ?_
  refine a9 ((c.toNat % 128:Nat):Int) ((aL _).trans (by omega)) ?_
  refine a9 ((7*i:Nat):Int) ((wrap_i64 (by omega) (by omega)).trans (by omega)) ?_
  refine aa (by simp; omega) ?_
  by_cases h1:i=9∧c.toNat>1
  ·refine ao ?_
   refine ao ?_
   refine aT (by omega) ?_
   refine aY (by omega) ?_
   have hn:numF 0 0 bs=(0,11,[]):=by rw [he]; unfold numF; rw [if_pos h1]
   rw [hn]
   refine Has.intro (Has.intro ?_)
   exact ⟨rfl,.inr ⟨by decide,rfl⟩⟩
  ·have hx:(c.toNat % 128)*128 ^ i<18446744073709551616:=by
    by_cases h9:i=9
    ·subst h9
     have:(128:Nat) ^ 9=9223372036854775808:=rfl
     rw [this]; omega
    ·have:=hpl8 (by omega)
     have h4:(c.toNat % 128)*128 ^ i≤127*72057594037927936:=Nat.mul_le_mul (by omega) this
     omega
   have hmin:min ((7*i:Nat):Int).toNat IntKind.u64.bits=7*i:=by show min (7*i) 64=7*i; omega
   refine a9 (((c.toNat % 128)*128 ^ i:Nat):Int) (by
    rw [hmin,aL,show (2:Int) ^ (7*i)=((2 ^ (7*i):Nat):Int) by simp,hp,←Int.natCast_mul]
    omega) ?_
   refine a9 ((u+(c.toNat % 128)*128 ^ i:Nat):Int) (by rw [u64_orN (by omega) hx,or_add hu]) ?_
   have next:¬ (c.toNat=0∧i>0)→¬ c.toNat<128→numF 0 0 bs=numF (i+1) (u+(c.toNat % 128)*128 ^ i) (bs.drop (i+1)):=fun h2 h3=>by
    rw [he]; conv=>lhs; unfold numF
    rw [if_neg h1,if_neg h2,if_neg h3]
   have good:¬ (c.toNat=0∧i>0)→c.toNat<128→numF 0 0 bs=(u+c.toNat*128 ^ i,0,bs.drop (i+1)):=fun h2 h3=>by
    rw [he]; conv=>lhs; unfold numF
    rw [if_neg h1,if_neg h2,if_pos h3]
   have bad:c.toNat=0∧i>0→numF 0 0 bs=(0,11,[]):=fun h2=>by
    rw [he]; conv=>lhs; unfold numF
    rw [if_neg h1,if_pos h2]
   have hps:128 ^ (i+1)=128 ^ i*128:=Nat.pow_succ ..
   have hnu:u+(c.toNat % 128)*128 ^ i<128 ^ (i+1):=by
    rw [hps,Nat.mul_comm (128 ^ i) 128]
    have:(c.toNat % 128)*128 ^ i≤127*128 ^ i:=Nat.mul_le_mul_right _ (by omega)
    omega
   refine aP (fun h9=>?_) (fun h9=>?_)
   ·refine aF (by omega) ?_
    refine aY (by omega) ?_
    refine aP (fun h0=>?_) (fun h0=>?_)
    ·refine ah (fun h2=>?_) (fun h2=>?_)
     ·(first | (rw [bad (by omega)]; refine Has.intro (Has.intro ?_); exact ⟨rfl,.inr ⟨by decide,rfl⟩⟩) | (have hg:=good (by omega) (by omega); rw [hg]; have hcm:c.toNat % 128=c.toNat:=(by omega); rw [hcm]; refine a8 _ ht ?_; refine ab rfl ?_; refine a9 _ (aq (by omega)) ?_; refine aa (by simp; omega) ?_; refine a9 (bc (bs.drop (i+1))) (by rw [aG,aG,Nat.mul_one,Nat.mul_one]; show ((bc bs).drop (i+1)).take (bs.length-(i+1))=_; rw [bc_drop]; exact List.take_of_length_le (by rw [bc_len,List.length_drop]; exact Nat.le_refl _)) ?_; refine a8 _ ht ?_; refine aa rfl ?_; refine ao ?_; refine Has.intro (Has.intro ?_); refine ⟨rfl,.inl ⟨rfl,x.part true false,?_⟩⟩; show hset H p _=hset H p (.pcells [.sl _ (bs.drop (i+1)).length _,.int .i64 e]); rw [List.length_drop]; rfl) | (refine a9 _ (aq (by omega)) ?_; refine Has.intro ⟨(i+1,u+(c.toNat % 128)*128 ^ i),⟨hlt,(by dsimp only; omega),hnu,next (by omega) (by omega)⟩,(by dsimp only; omega),⟨rfl,rfl,rfl,rfl,rfl,trivial⟩,rfl⟩) | (exfalso; omega))
     ·exfalso; omega
    ·refine aY (by omega) ?_
     (first | (rw [bad (by omega)]; refine Has.intro (Has.intro ?_); exact ⟨rfl,.inr ⟨by decide,rfl⟩⟩) | (have hg:=good (by omega) (by omega); rw [hg]; have hcm:c.toNat % 128=c.toNat:=(by omega); rw [hcm]; refine a8 _ ht ?_; refine ab rfl ?_; refine a9 _ (aq (by omega)) ?_; refine aa (by simp; omega) ?_; refine a9 (bc (bs.drop (i+1))) (by rw [aG,aG,Nat.mul_one,Nat.mul_one]; show ((bc bs).drop (i+1)).take (bs.length-(i+1))=_; rw [bc_drop]; exact List.take_of_length_le (by rw [bc_len,List.length_drop]; exact Nat.le_refl _)) ?_; refine a8 _ ht ?_; refine aa rfl ?_; refine ao ?_; refine Has.intro (Has.intro ?_); refine ⟨rfl,.inl ⟨rfl,x.part true false,?_⟩⟩; show hset H p _=hset H p (.pcells [.sl _ (bs.drop (i+1)).length _,.int .i64 e]); rw [List.length_drop]; rfl) | (refine a9 _ (aq (by omega)) ?_; refine Has.intro ⟨(i+1,u+(c.toNat % 128)*128 ^ i),⟨hlt,(by dsimp only; omega),hnu,next (by omega) (by omega)⟩,(by dsimp only; omega),⟨rfl,rfl,rfl,rfl,rfl,trivial⟩,rfl⟩) | (exfalso; omega))
   ·refine ah (fun h3=>?_) (fun h3=>?_)
    ·refine aP (fun h0=>?_) (fun h0=>?_)
     ·refine ah (fun h2=>?_) (fun h2=>?_)
      ·(first | (rw [bad (by omega)]; refine Has.intro (Has.intro ?_); exact ⟨rfl,.inr ⟨by decide,rfl⟩⟩) | (have hg:=good (by omega) (by omega); rw [hg]; have hcm:c.toNat % 128=c.toNat:=(by omega); rw [hcm]; refine a8 _ ht ?_; refine ab rfl ?_; refine a9 _ (aq (by omega)) ?_; refine aa (by simp; omega) ?_; refine a9 (bc (bs.drop (i+1))) (by rw [aG,aG,Nat.mul_one,Nat.mul_one]; show ((bc bs).drop (i+1)).take (bs.length-(i+1))=_; rw [bc_drop]; exact List.take_of_length_le (by rw [bc_len,List.length_drop]; exact Nat.le_refl _)) ?_; refine a8 _ ht ?_; refine aa rfl ?_; refine ao ?_; refine Has.intro (Has.intro ?_); refine ⟨rfl,.inl ⟨rfl,x.part true false,?_⟩⟩; show hset H p _=hset H p (.pcells [.sl _ (bs.drop (i+1)).length _,.int .i64 e]); rw [List.length_drop]; rfl) | (refine a9 _ (aq (by omega)) ?_; refine Has.intro ⟨(i+1,u+(c.toNat % 128)*128 ^ i),⟨hlt,(by dsimp only; omega),hnu,next (by omega) (by omega)⟩,(by dsimp only; omega),⟨rfl,rfl,rfl,rfl,rfl,trivial⟩,rfl⟩) | (exfalso; omega))
      ·refine aY (by omega) ?_
       (first | (rw [bad (by omega)]; refine Has.intro (Has.intro ?_); exact ⟨rfl,.inr ⟨by decide,rfl⟩⟩) | (have hg:=good (by omega) (by omega); rw [hg]; have hcm:c.toNat % 128=c.toNat:=(by omega); rw [hcm]; refine a8 _ ht ?_; refine ab rfl ?_; refine a9 _ (aq (by omega)) ?_; refine aa (by simp; omega) ?_; refine a9 (bc (bs.drop (i+1))) (by rw [aG,aG,Nat.mul_one,Nat.mul_one]; show ((bc bs).drop (i+1)).take (bs.length-(i+1))=_; rw [bc_drop]; exact List.take_of_length_le (by rw [bc_len,List.length_drop]; exact Nat.le_refl _)) ?_; refine a8 _ ht ?_; refine aa rfl ?_; refine ao ?_; refine Has.intro (Has.intro ?_); refine ⟨rfl,.inl ⟨rfl,x.part true false,?_⟩⟩; show hset H p _=hset H p (.pcells [.sl _ (bs.drop (i+1)).length _,.int .i64 e]); rw [List.length_drop]; rfl) | (refine a9 _ (aq (by omega)) ?_; refine Has.intro ⟨(i+1,u+(c.toNat % 128)*128 ^ i),⟨hlt,(by dsimp only; omega),hnu,next (by omega) (by omega)⟩,(by dsimp only; omega),⟨rfl,rfl,rfl,rfl,rfl,trivial⟩,rfl⟩) | (exfalso; omega))
     ·refine aY (by omega) ?_
      (first | (rw [bad (by omega)]; refine Has.intro (Has.intro ?_); exact ⟨rfl,.inr ⟨by decide,rfl⟩⟩) | (have hg:=good (by omega) (by omega); rw [hg]; have hcm:c.toNat % 128=c.toNat:=(by omega); rw [hcm]; refine a8 _ ht ?_; refine ab rfl ?_; refine a9 _ (aq (by omega)) ?_; refine aa (by simp; omega) ?_; refine a9 (bc (bs.drop (i+1))) (by rw [aG,aG,Nat.mul_one,Nat.mul_one]; show ((bc bs).drop (i+1)).take (bs.length-(i+1))=_; rw [bc_drop]; exact List.take_of_length_le (by rw [bc_len,List.length_drop]; exact Nat.le_refl _)) ?_; refine a8 _ ht ?_; refine aa rfl ?_; refine ao ?_; refine Has.intro (Has.intro ?_); refine ⟨rfl,.inl ⟨rfl,x.part true false,?_⟩⟩; show hset H p _=hset H p (.pcells [.sl _ (bs.drop (i+1)).length _,.int .i64 e]); rw [List.length_drop]; rfl) | (refine a9 _ (aq (by omega)) ?_; refine Has.intro ⟨(i+1,u+(c.toNat % 128)*128 ^ i),⟨hlt,(by dsimp only; omega),hnu,next (by omega) (by omega)⟩,(by dsimp only; omega),⟨rfl,rfl,rfl,rfl,rfl,trivial⟩,rfl⟩) | (exfalso; omega))
    ·refine aF (by omega) ?_
     (first | (rw [bad (by omega)]; refine Has.intro (Has.intro ?_); exact ⟨rfl,.inr ⟨by decide,rfl⟩⟩) | (have hg:=good (by omega) (by omega); rw [hg]; have hcm:c.toNat % 128=c.toNat:=(by omega); rw [hcm]; refine a8 _ ht ?_; refine ab rfl ?_; refine a9 _ (aq (by omega)) ?_; refine aa (by simp; omega) ?_; refine a9 (bc (bs.drop (i+1))) (by rw [aG,aG,Nat.mul_one,Nat.mul_one]; show ((bc bs).drop (i+1)).take (bs.length-(i+1))=_; rw [bc_drop]; exact List.take_of_length_le (by rw [bc_len,List.length_drop]; exact Nat.le_refl _)) ?_; refine a8 _ ht ?_; refine aa rfl ?_; refine ao ?_; refine Has.intro (Has.intro ?_); refine ⟨rfl,.inl ⟨rfl,x.part true false,?_⟩⟩; show hset H p _=hset H p (.pcells [.sl _ (bs.drop (i+1)).length _,.int .i64 e]); rw [List.length_drop]; rfl) | (refine a9 _ (aq (by omega)) ?_; refine Has.intro ⟨(i+1,u+(c.toNat % 128)*128 ^ i),⟨hlt,(by dsimp only; omega),hnu,next (by omega) (by omega)⟩,(by dsimp only; omega),⟨rfl,rfl,rfl,rfl,rfl,trivial⟩,rfl⟩) | (exfalso; omega))
 ·have:i=bs.length:=by omega
  subst this
  rw [List.drop_length] at he
  have hn:numF 0 0 bs=(0,10,[]):=by rw [he]; unfold numF; rfl
  rw [hn]
  refine Has.intro (Has.intro ?_)
  exact ⟨rfl,.inr ⟨by decide,rfl⟩⟩
end Go.Proofs.YtflfdglnelbbiaaGreat.T
namespace Go.Proofs.YtflfdglnelbbiaaGreat.T
open Go Go.VM
section
variable (p:Nat) (x:Ext) (bs:List UInt8) (hb:bs.length≤1000000) (e:Int) (H:Heap) (ht:hget H p=rdO x bs e)
def Left (p:Nat) (v:PV) (bs:List UInt8) (e:Int) (H:Heap) (y:AV × Heap):Prop:=y.1 = .pv v ∧ ∃ x,y.2=hset H p (rdO x bs e)
theorem rdl (h:hget H p=rdO x bs e):p<H.length:=ap h (by intro h; cases h)
include ht
theorem fail_no (err:Int) (h:e≠0∨err=0):EE env (.fn 98) [.ptr p 0,.pv (.int .i64 err)] H=some (.pv (.tup []),H):=by
 refine Has.eq (aK ?_)
 refine a8 _ ht ?_
 refine ab rfl ?_
 refine aP (fun h1=>?_) (fun h1=>?_)
 ·refine bg (by omega) ?_
  exact Has.intro rfl
 ·exact Has.intro rfl
theorem fail_yes (err:Int) (h:e=0) (h2:err≠0):EE env (.fn 98) [.ptr p 0,.pv (.int .i64 err)] H=some (.pv (.tup []),hset H p (rdO .nil [] err)):=by
 refine Has.eq (aK ?_)
 refine a8 _ ht ?_
 refine ab rfl ?_
 refine aT h ?_
 refine boolK_bne_t h2 ?_
 refine a8 _ ht ?_
 refine aa rfl ?_
 refine ao ?_
 refine a8 _ (ai _ (rdl p x bs e H ht)) ?_
 refine aa rfl ?_
 refine ao ?_
 refine Has.intro ?_
 rw [hset_hset]; rfl
def rNum (bs:List UInt8) (e:Int) (most:Nat):Nat × List UInt8 × Int:=
 if e≠0 then (0,bs,e) else if (numF 0 0 bs).2.1≠0 then (0,[],(numF 0 0 bs).2.1) else if (numF 0 0 bs).1>most then (0,[],15) else ((numF 0 0 bs).1,(numF 0 0 bs).2.2,0)
include hb
set_option maxHeartbeats 1000000 in
theorem rnum_ok (most:Nat):Has (EE env (.fn 95) [.ptr p 0,.pv (.int .u64 (most:Int))] H) (Left p (.int .u64 ((rNum bs e most).1:Nat)) (rNum bs e most).2.1 (rNum bs e most).2.2 H):=by
 have hpl:=rdl p x bs e H ht
 refine aK ?_
 refine a8 _ ht ?_
 refine ab rfl ?_
 by_cases h0:e=0
 ·subst h0
  refine bg rfl ?_
  refine am ((num_ok p x bs hb 0 H ht).mono fun y hy=>?_)
  obtain ⟨v,H'⟩:=y
  obtain ⟨e1,e2⟩:=hy
  dsimp only at e1 e2 ⊢
  subst e1
  have hr:rNum bs 0 most=if (numF 0 0 bs).2.1≠0 then (0,[],(numF 0 0 bs).2.1) else if (numF 0 0 bs).1>most then (0,[],15) else ((numF 0 0 bs).1,(numF 0 0 bs).2.2,0):=by
   unfold rNum; rw [if_neg (by simp)]
  generalize (numF 0 0 bs).1=v at *
  generalize (numF 0 0 bs).2.1=er at *
  generalize (numF 0 0 bs).2.2=rest at *
  rcases e2 with ⟨rfl,x',rfl⟩ | ⟨her,e2⟩
  ·rw [if_neg (by simp)] at hr
   have ht':hget (hset H p (rdO x' rest 0)) p=rdO x' rest 0:=ai _ hpl
   refine aT rfl ?_
   refine ah (fun h1=>?_) (fun h1=>?_)
   ·rw [hr,if_pos (by omega)]
    refine au (fail_yes p x' rest 0 _ ht' 15 rfl (by decide)) ?_
    refine boolK_bne_t (by decide) ?_
    refine Has.intro ⟨rfl,.nil,?_⟩
    rw [hset_hset]
   ·rw [hr,if_neg (by omega)]
    refine au (fail_no p x' rest 0 _ ht' 0 (.inr rfl)) ?_
    refine bg rfl ?_
    exact Has.intro ⟨rfl,x',rfl⟩
  ·rw [if_pos her] at hr
   rw [hr,e2]
   refine boolK_beq_f her ?_
   refine au (fail_yes p x bs 0 H ht er rfl her) ?_
   refine boolK_bne_t her ?_
   exact Has.intro ⟨rfl,.nil,rfl⟩
 ·refine boolK_bne_t h0 ?_
  have hr:rNum bs e most=(0,bs,e):=by unfold rNum; rw [if_pos h0]
  rw [hr]
  exact Has.intro ⟨rfl,x,(hset_self ht).symm⟩
omit hb ht in
theorem rNum_lt (most:Nat):(rNum bs e most).1<18446744073709551616:=by
 unfold rNum
 split
 ·exact (by decide:(0:Nat)<18446744073709551616)
 ·split
  ·exact (by decide:(0:Nat)<18446744073709551616)
  ·rename_i h
   split
   ·exact (by decide:(0:Nat)<18446744073709551616)
   ·exact (numF_lt (bs:=bs) (rest:=(numF 0 0 bs).2.2) (v:=(numF 0 0 bs).1) (by rw [←Classical.not_not.1 h])).1
omit hb ht in
theorem numF_short:∀ (bs:List UInt8) (i u:Nat),(numF i u bs).2.2.length≤bs.length:=by
 intro bs
 induction bs with
 | nil=>intro i u; exact Nat.le_refl _
 | cons c l ih=>
   intro i u
   unfold numF
   split
   ·exact Nat.zero_le _
   split
   ·exact Nat.zero_le _
   split
   ·exact Nat.le_succ _
   ·exact Nat.le_succ_of_le (ih _ _)
omit hb ht in
theorem rNum_short (most:Nat):(rNum bs e most).2.1.length≤bs.length:=by
 unfold rNum
 split
 ·exact Nat.le_refl _
 split
 ·exact Nat.zero_le _
 split
 ·exact Nat.zero_le _
 ·exact numF_short bs 0 0
def maxU:Nat:=18446744073709551615
def rSig (bs:List UInt8) (e least most:Int):Int × List UInt8 × Int:=
 if (rNum bs e maxU).2.2≠0 then (0,(rNum bs e maxU).2) else if zag (rNum bs e maxU).1<least∨zag (rNum bs e maxU).1>most then (0,[],15) else (zag (rNum bs e maxU).1,(rNum bs e maxU).2)
set_option maxHeartbeats 1000000 in
theorem rsig_ok (least most:Int):Has (EE env (.fn 96) [.ptr p 0,.pv (.int .i64 least),.pv (.int .i64 most)] H) (Left p (.int .i64 (rSig bs e least most).1) (rSig bs e least most).2.1 (rSig bs e least most).2.2 H):=by
 have hpl:=rdl p x bs e H ht
 have hlt:=rNum_lt bs e maxU
 refine aK ?_
 refine am ((rnum_ok p x bs hb e H ht maxU).mono fun y hy=>?_)
 obtain ⟨v,H'⟩:=y
 obtain ⟨e1,x',e2⟩:=hy
 dsimp only at e1 e2 ⊢
 subst e1; subst e2
 unfold rSig
 generalize rNum bs e maxU=R at *
 obtain ⟨v,bs',e'⟩:=R
 dsimp only at hlt ⊢
 have ht':hget (hset H p (rdO x' bs' e')) p=rdO x' bs' e':=ai _ hpl
 refine aj (zag_ok (by omega) (by omega)) ?_
 refine a8 _ ht' ?_
 refine ab rfl ?_
 refine aO (fun h1=>?_) (fun h1=>?_)
 ·rw [if_pos h1]
  exact Has.intro ⟨rfl,x',rfl⟩
 ·rw [if_neg (fun h=>h h1)]
  refine ah (fun h2=>?_) (fun h2=>?_)
  ·rw [if_pos (.inl h2)]
   refine au (fail_yes p x' bs' e' _ ht' 15 h1 (by decide)) ?_
   refine Has.intro ⟨rfl,.nil,?_⟩
   rw [hset_hset]
  ·refine ah (fun h3=>?_) (fun h3=>?_)
   ·rw [if_pos (.inr h3)]
    refine au (fail_yes p x' bs' e' _ ht' 15 h1 (by decide)) ?_
    refine Has.intro ⟨rfl,.nil,?_⟩
    rw [hset_hset]
   ·rw [if_neg (by omega)]
    exact Has.intro ⟨rfl,x',rfl⟩
def rTxt (bs:List UInt8) (e most:Int):List UInt8 × List UInt8 × Int:=
 if (rNum bs e maxU).2.2≠0 then ([],(rNum bs e maxU).2) else if most<0∨((rNum bs e maxU).1:Int)>most then ([],[],15) else if (rNum bs e maxU).1>(rNum bs e maxU).2.1.length then ([],[],10)
 else ((rNum bs e maxU).2.1.take (rNum bs e maxU).1,(rNum bs e maxU).2.1.drop (rNum bs e maxU).1,(rNum bs e maxU).2.2)
set_option maxHeartbeats 2000000 in
theorem rtxt_ok (most:Int) (hm:most≤9223372036854775807):Has (EE env (.fn 80) [.ptr p 0,.pv (.int .i64 most)] H) (Left p (sv (rTxt bs e most).1) (rTxt bs e most).2.1 (rTxt bs e most).2.2 H):=by
 have hpl:=rdl p x bs e H ht
 have hlt:=rNum_lt bs e maxU
 have hsh:=rNum_short bs e maxU
 refine aK ?_
 refine am ((rnum_ok p x bs hb e H ht maxU).mono fun y hy=>?_)
 obtain ⟨v,H'⟩:=y
 obtain ⟨e1,x',e2⟩:=hy
 dsimp only at e1 e2 ⊢
 subst e1; subst e2
 unfold rTxt
 generalize rNum bs e maxU=R at *
 obtain ⟨v,bs',e'⟩:=R
 dsimp only at hlt hsh ⊢
 have ht':hget (hset H p (rdO x' bs' e')) p=rdO x' bs' e':=ai _ hpl
 refine a8 _ ht' ?_
 refine ab rfl ?_
 refine aO (fun h1=>?_) (fun h1=>?_)
 ·rw [if_pos h1]
  exact Has.intro ⟨rfl,x',rfl⟩
 rw [if_neg (fun h=>h h1)]
 have bad:(most<0∨(v:Int)>most)→Has (some ((AV.pv (sv [])),hset (hset H p (rdO x' bs' e')) p (rdO .nil [] 15))) (Left p (sv []) [] 15 H):=fun _=>Has.intro ⟨rfl,.nil,by rw [hset_hset]⟩
 refine ah (fun h2=>?_) (fun h2=>?_)
 ·rw [if_pos (.inl h2)]
  refine au (fail_yes p x' bs' e' _ ht' 15 h1 (by decide)) ?_
  exact Has.intro ⟨rfl,.nil,by rw [hset_hset]⟩
 refine a9 most ((aL _).trans (by omega)) ?_
 refine ah (fun h3=>?_) (fun h3=>?_)
 ·rw [if_pos (.inr h3)]
  refine au (fail_yes p x' bs' e' _ ht' 15 h1 (by decide)) ?_
  exact Has.intro ⟨rfl,.nil,by rw [hset_hset]⟩
 rw [if_neg (by omega)]
 refine a8 _ ht' ?_
 refine ab rfl ?_
 refine a9 ((bs'.length:Nat):Int) ((aL _).trans (by omega)) ?_
 refine ah (fun h4=>?_) (fun h4=>?_)
 ·rw [if_pos (by omega)]
  refine au (fail_yes p x' bs' e' _ ht' 10 h1 (by decide)) ?_
  exact Has.intro ⟨rfl,.nil,by rw [hset_hset]⟩
 rw [if_neg (by omega)]
 have hv:v≤bs'.length:=by omega
 have htl:(bs'.take v).length=v:=by rw [List.length_take]; omega
 refine a8 _ ht' ?_
 refine ab rfl ?_
 refine aa (by simp; omega) ?_
 refine a9 (bc (bs'.take v)) (by
  rw [aG,aG,Nat.mul_one,Nat.mul_one]
  show ((bc bs').drop 0).take (v-0)=_
  rw [List.drop_zero,bc_take]; rfl) ?_
 refine aa (by rw [bc_len,htl]; exact Nat.beq_refl _) ?_
 refine bj (bc_str _) ?_
 refine a8 _ ht' ?_
 refine ab rfl ?_
 refine aa (by simp; omega) ?_
 refine a9 (bc (bs'.drop v)) (by
  rw [aG,aG,Nat.mul_one,Nat.mul_one]
  show ((bc bs').drop v).take (bs'.length-v)=_
  rw [bc_drop]; exact List.take_of_length_le (by rw [bc_len,List.length_drop]; exact Nat.le_refl _)) ?_
 refine a8 _ ht' ?_
 refine aa rfl ?_
 refine ao ?_
 refine Has.intro ⟨rfl,x'.part true false,?_⟩
 rw [hset_hset]
 show hset H p _=hset H p (.pcells [.sl _ (bs'.drop v).length _,.int .i64 e'])
 rw [List.length_drop]; rfl
def rFlg (bs:List UInt8) (e:Int):Bool × List UInt8 × Int:=
 if e≠0 then (false,bs,e) else match bs with
  | []=>(false,[],10)
  | c::l=>if c.toNat>1 then (false,[],11) else (decide (c.toNat=1),l,0)
set_option maxHeartbeats 1000000 in
theorem rflg_ok:Has (EE env (.fn 112) [.ptr p 0] H) (Left p (.bool (rFlg bs e).1) (rFlg bs e).2.1 (rFlg bs e).2.2 H):=by
 have hpl:=rdl p x bs e H ht
 refine aK ?_
 refine a8 _ ht ?_
 refine ab rfl ?_
 refine aO (fun h1=>?_) (fun h1=>?_)
 ·unfold rFlg; rw [if_pos h1]
  exact Has.intro ⟨rfl,x,(hset_self ht).symm⟩
 subst h1
 refine a8 _ ht ?_
 refine ab rfl ?_
 unfold rFlg
 rw [if_neg (by simp)]
 cases bs with
 | nil=>
   refine aT rfl ?_
   refine au (fail_yes p x [] 0 _ ht 10 rfl (by decide)) ?_
   exact Has.intro ⟨rfl,.nil,rfl⟩
 | cons c l=>
   dsimp only
   refine boolK_beq_f (by simp; omega) ?_
   refine a8 _ ht ?_
   refine ab rfl ?_
   refine aa (by (first | rfl | (simp; done) | (simp; omega))) ?_
   refine ab (v:=.int .u8 c.toNat) rfl ?_
   refine ah (fun h2=>?_) (fun h2=>?_)
   ·rw [if_pos (by omega)]
    refine au (fail_yes p x (c::l) 0 _ ht 11 rfl (by decide)) ?_
    exact Has.intro ⟨rfl,.nil,rfl⟩
   ·rw [if_neg (by omega)]
    refine a8 _ ht ?_
    refine ab rfl ?_
    refine aa (by (first | rfl | (simp; done) | (simp; omega))) ?_
    refine ab (v:=.int .u8 c.toNat) rfl ?_
    refine boolK_has_keep ?_
    refine a8 _ ht ?_
    refine ab rfl ?_
    refine aa (by (first | rfl | (simp; done) | (simp; omega))) ?_
    refine a9 (bc l) (by
     rw [aG,aG,Nat.mul_one,Nat.mul_one]
     show ((bc (c::l)).drop 1).take ((c::l).length-1)=_
     exact List.take_of_length_le (by show (bc l).length≤_; rw [bc_len]; simp)) ?_
    refine a8 _ ht ?_
    refine aa rfl ?_
    refine ao ?_
    refine Has.intro ⟨?_,x.part true false,?_⟩
    ·show AV.pv (PV.bool ((c.toNat:Int)==1))=_
     congr 2
     rw [Bool.eq_iff_iff,beq_iff_eq,decide_eq_true_iff]; omega
    ·show hset H p (HObj.pcells [.sl (x.part true false) ((c::l).length-1) (bc l),.int .i64 0])=_
     rw [show ((c::l).length-1)=l.length by simp]; rfl
def rEnd (bs:List UInt8) (e:Int):Int:=if e=0∧bs≠[] then 13 else e
omit hb in
theorem err_ok:EE env (.fn 100) [.ptr p 0] H=some (.pv (.int .i64 e),H):=by
 refine Has.eq (aK ?_)
 refine a8 _ ht ?_
 refine ab rfl ?_
 exact Has.intro rfl
omit hb in
theorem left_ok:EE env (.fn 99) [.ptr p 0] H=some (.pv (.int .i64 bs.length),H):=by
 refine Has.eq (aK ?_)
 refine a8 _ ht ?_
 refine ab rfl ?_
 exact Has.intro rfl
omit hb in
theorem end_ok:Has (EE env (.fn 81) [.ptr p 0] H) (fun y=>y.1 = .pv (.int .i64 (rEnd bs e)) ∧ ∃ o,y.2=hset H p o):=by
 have hpl:=rdl p x bs e H ht
 refine aK ?_
 refine au (left_ok p x bs e H ht) ?_
 refine ah (fun h1=>?_) (fun h1=>?_)
 ·have hne:bs≠[]:=fun h=>by subst h; simp at h1
  by_cases h0:e=0
  ·refine au (fail_yes p x bs e H ht 13 h0 (by decide)) ?_
   refine au (err_ok p .nil [] 13 _ (ai _ hpl)) ?_
   refine Has.intro ⟨?_,_,rfl⟩
   show AV.pv (PV.int .i64 13)=_
   unfold rEnd; rw [if_pos ⟨h0,hne⟩]
  ·refine au (fail_no p x bs e H ht 13 (.inl h0)) ?_
   refine au (err_ok p x bs e H ht) ?_
   refine Has.intro ⟨?_,_,(hset_self ht).symm⟩
   show AV.pv (PV.int .i64 e)=_
   unfold rEnd; rw [if_neg (fun h=>h0 h.1)]
 ·have he:bs=[]:=List.eq_nil_of_length_eq_zero (by omega)
  refine au (err_ok p x bs e H ht) ?_
  refine Has.intro ⟨?_,_,(hset_self ht).symm⟩
  show AV.pv (PV.int .i64 e)=_
  unfold rEnd; rw [if_neg (fun h=>h.2 he)]
end
theorem read_ok (x:Ext) (bs:List UInt8) (hx:(x = .nil∧bs=[])∨x = .nn∨x = .nnx) (hb:bs.length≤1000000) (H:Heap):∃ e,EE env (.fn 77) [.pv (.sl x bs.length (bc bs))] H=some (.ptr H.length 0,H++[rdO e bs 0]):=by
 obtain ⟨e,he,_⟩:=clone_ok x bs hx hb
 refine ⟨e,Has.eq (aK ?_)⟩
 refine aj he ?_
 exact Has.intro rfl
end Go.Proofs.YtflfdglnelbbiaaGreat.T
namespace Go.Proofs.YtflfdglnelbbiaaGreat.T
open Go Go.VM
theorem TP.put {H:Heap} {p q:Nat} {bs:List UInt8} (h:TP H p bs) {o:HObj} (o':HObj) (hq:hget H q=o) (ho:∀ n es,o ≠ .tok n es) (hne:p≠q):TP (hset H q o') p bs:=by
 obtain ⟨v,h1,h2⟩:=h
 exact ⟨v,(an _ _ hne).trans h1,b9 h2 o' hq ho⟩
theorem TP.grow {H:Heap} {p:Nat} {bs:List UInt8} (h:TP H p bs) (L:Heap):TP (H++L) p bs:=by
 obtain ⟨v,h1,h2⟩:=h
 exact ⟨v,(aA L (ap h1 cellOf_ne.1)).trans h1,AppV_grow h2 L⟩
end Go.Proofs.YtflfdglnelbbiaaGreat.T
namespace Go.Proofs.YtflfdglnelbbiaaGreat.T
open Go Go.VM
theorem numF_of {u:Nat} (hu:u<18446744073709551616) (rest:List UInt8):numF 0 0 (enc u++rest)=(u,0,rest):=by
 have:=numF_enc rest u 0 0 (.inr rfl) (by simpa using hu)
 simpa using this
theorem rNum_enc {u:Nat} (hu:u<18446744073709551616) (rest:List UInt8) (most:Nat) (hm:u≤most):rNum (enc u++rest) 0 most=(u,rest,0):=by
 unfold rNum
 rw [numF_of hu,if_neg (by simp),if_neg (by simp),if_neg (by dsimp only; omega)]
theorem maxU_eq:maxU=18446744073709551615:=rfl
theorem enc_bool (b:Bool):enc b.toNat=[UInt8.ofNat b.toNat]:=by rw [enc_lo (by cases b<;>decide)]
theorem rFlg_enc (b:Bool) (rest:List UInt8):rFlg (enc b.toNat++rest) 0=(b,rest,0):=by
 rw [enc_bool]
 cases b<;>rfl
theorem rTxt_short (bs:List UInt8) (e most:Int):(rTxt bs e most).1.length≤bs.length∧(rTxt bs e most).2.1.length≤bs.length:=by
 have:=rNum_short bs e maxU
 unfold rTxt
 split
 ·exact ⟨Nat.zero_le _,this⟩
 split
 ·exact ⟨Nat.zero_le _,Nat.zero_le _⟩
 split
 ·exact ⟨Nat.zero_le _,Nat.zero_le _⟩
 ·dsimp only
  rw [List.length_take,List.length_drop]; omega
theorem rSig_short (bs:List UInt8) (e a b:Int):(rSig bs e a b).2.1.length≤bs.length:=by
 have:=rNum_short bs e maxU
 unfold rSig
 split
 ·exact this
 split
 ·exact Nat.zero_le _
 ·exact this
theorem rFlg_short (bs:List UInt8) (e:Int):(rFlg bs e).2.1.length≤bs.length:=by
 unfold rFlg
 split
 ·exact Nat.le_refl _
 split
 ·exact Nat.zero_le _
 split
 ·exact Nat.zero_le _
 ·exact Nat.le_succ _
end Go.Proofs.YtflfdglnelbbiaaGreat.T
namespace Go.Proofs.YtflfdglnelbbiaaGreat
open Go Go.VM
def kinC (c d:Ct):Prop:=c.name=d.name∧c.r0=d.r0∧c.r1=d.r1∧c.r2=d.r2
instance (c d:Ct):Decidable (kinC c d):=by unfold kinC; infer_instance
def rC (c d:Ct):Prop:=c.r0=d.r0∧c.r1=d.r1∧c.r2=d.r2
instance (c d:Ct):Decidable (rC c d):=by unfold rC; infer_instance
def r3 (c:Ct):List PV:=[.bool c.r0,.bool c.r1,.bool c.r2]
theorem r3_eq (c d:Ct):aggEq [.b,.b,.b] (r3 c) (r3 d)=some (decide (rC c d)):=by
 show some _=some _
 congr 1
 rw [Bool.eq_iff_iff,decide_eq_true_iff]
 simp [rC]
def kinL (a b:List Ct):Prop:=a.length=b.length ∧ ∀ (j:Nat) (c d:Ct),a[j]? = some c→b[j]? = some d→kinC c d
noncomputable instance (a b:List Ct):Decidable (kinL a b):=Classical.propDecidable _
def kinP (a b:Pd):Prop:=a.name=b.name∧a.prio=b.prio∧a.pol=b.pol∧kinL a.l b.l
noncomputable instance (a b:Pd):Decidable (kinP a b):=Classical.propDecidable _
theorem at_ij (i j es:Nat):addO (mulE ((i:Nat):Int).toNat es) j=i*es+j:=by rw [addO_eq,aG]; rfl
theorem EP_of {f:FuncId} {ps:List PV} {v:PV} {X:AV × Heap→Prop} (h:Has (EE env (.fn f) (ps.map .pv) []) (fun y=>y.1 = .pv v∧X y)):EP (EE env) f ps=some v:=by
 obtain ⟨y,h1,h2,_⟩:=h
 unfold EP
 rw [h1]
 obtain ⟨a,b⟩:=y
 dsimp only at h2
 subst h2
 rfl
theorem pod_p (x:Ext) (p:Pd) (hs:small p):EP (EE env) 116 [.agg (pdc p x)]=some (.bool (decide (podP p))):=EP_of (pod_ok _ p hs [] (.inl ⟨x,rfl⟩))
theorem rpod_p (x:Ext) (p:Pd) (hs:small p):EP (EE env) 82 [.agg (pdc p x)]=some (.bool (decide (podP p))):=EP_of (rpod_ok _ p hs [] (.inl ⟨x,rfl⟩))
theorem class_p (x:Ext) (p:Pd) (hl:p.l.length≤maxLen):EP (EE env) 118 [.agg (pdc p x)]=some (.int .i64 (classI p.l)):=EP_of (class_ok _ p hl [] (.inl ⟨x,rfl⟩))
theorem rclass_p (x:Ext) (p:Pd) (hl:p.l.length≤maxLen):EP (EE env) 84 [.agg (pdc p x)]=some (.int .i64 (classI p.l)):=EP_of (rclass_ok _ p hl [] (.inl ⟨x,rfl⟩))
theorem alike_ok (c d:Ct) (H:Heap):EE env (.fn 129) [.pv (.agg (ct c)),.pv (.agg (ct d))] H=some (.pv (.bool (decide (kinC c d))),H++[.pcells (ct c)]++[.pcells (ct d)]):=by
 have k1:hget (H++[.pcells (ct c)]++[.pcells (ct d)]) H.length = .pcells (ct c):=(aA _ (by simp)).trans (ak H _)
 refine Has.eq (aK ?_)
 refine a8 _ k1 ?_
 refine ab rfl ?_
 refine af ?_
 refine ab rfl ?_
 refine aD (c:=decide (c.name=d.name)) (str_beq _ _) ?_
 by_cases h1:c.name=d.name
 ·rw [decide_eq_true h1]
  refine a8 _ k1 ?_
  refine ae (v:=r3 c) rfl (of_decide_eq_true rfl) ?_
  refine af ?_
  refine ae (v:=r3 d) rfl (of_decide_eq_true rfl) ?_
  refine bj (r3_eq c d) ?_
  refine ah (fun h2=>?_) (fun h2=>?_)
  ·rw [show decide (kinC c d)=true from decide_eq_true ⟨h1,h2⟩]
   exact Has.intro rfl
  ·rw [show decide (kinC c d)=false from decide_eq_false fun h=>h2 h.2]
   exact Has.intro rfl
 ·rw [decide_eq_false h1,show decide (kinC c d)=false from decide_eq_false fun h=>h1 h.1]
  exact Has.intro rfl
theorem alike_p (c d:Ct):EP (EE env) 129 [.agg (ct c),.agg (ct d)]=some (.bool (decide (kinC c d))):=EP_of (X:=fun _=>True) ⟨_,alike_ok c d [],rfl,trivial⟩
theorem flat_part {α:Type} {f:α→List PV} {es:Nat} (hf:∀ a,(f a).length=es) {l:List α} {i:Nat} {a:α} (h:l[i]? = some a) {j n:Nat} (hjn:j+n≤es) :
 ((flat f l).drop (i*es+j)).take n=((f a).drop j).take n∧i*es+j+n≤(flat f l).length:=by
 obtain ⟨h1,h2⟩:=aR hf h
 refine ⟨?_,by omega⟩
 rw [←h1,List.drop_take,List.take_take,List.drop_drop]
 congr 1; omega
set_option maxHeartbeats 1000000 in
theorem equalF_ok (x y:Ext) (a b:List Ct) (hl:a.length≤maxLen):EP (EE env) 130 [.sl x a.length (flat ct a),.sl y b.length (flat ct b),.fn 129 [] []]=some (.bool (decide (kinL a b))):=by
 rw [aS] at hl
 refine Has.eq (aE ?_)
 refine aO (fun h=>?_) (fun h=>?_)
 ·exact Has.intro (Has.intro (no (fun e=>h (by rw [e.1]))))
 have hab:a.length=b.length:=by omega
 refine aw ?_
 refine aW (σ:=Nat) (fun i=>a.length-i) (fun i=>[(0,.pv (.sl x a.length (flat ct a))),(1,.pv (.sl y b.length (flat ct b))),(2,.pv (.fn 129 [] [])),(15,.pv (.sl x a.length (flat ct a))),(16,.pv (.int .i64 a.length)),(17,.pv (.int .i64 i))]) (fun _=>[])
  (fun i=>i≤a.length ∧ ∀ (j:Nat) (c d:Ct),j<i→a[j]? = some c→b[j]? = some d→kinC c d) (fun i ⟨hi,hA⟩ r J=>?_) 0 ⟨Nat.zero_le _,fun j c d h=>by omega⟩ [] ⟨rfl,rfl,rfl,rfl,rfl,rfl,trivial⟩ rfl
 refine ah (fun hc=>?_) (fun hc=>?_)
 ·have hlt:i<a.length:=by omega
  obtain ⟨c,hcg⟩:∃ c,a[i]? = some c:=⟨_,List.getElem?_eq_getElem hlt⟩
  obtain ⟨d,hdg⟩:∃ c,b[i]? = some c:=⟨_,List.getElem?_eq_getElem (show i<b.length by omega)⟩
  obtain ⟨g1,g2⟩:=aR ct_len hcg
  obtain ⟨f1,f2⟩:=aR ct_len hdg
  refine aa (by (first | rfl | (simp; done) | (simp; omega))) ?_
  refine ae g1 g2 ?_
  refine af ?_
  refine aa rfl ?_
  refine a9 (ct c) rfl ?_
  rw [aH]
  refine aa (by (first | rfl | (simp; done) | (simp; omega))) ?_
  refine ae f1 f2 ?_
  refine af ?_
  refine aa rfl ?_
  refine a9 (ct d) rfl ?_
  rw [aH]
  refine a8 (.pcells (ct c)) ((aA _ (by simp)).trans (ak _ _)) ?_
  refine ae (v:=ct c) rfl (of_decide_eq_true rfl) ?_
  refine af ?_
  refine ae (v:=ct d) rfl (of_decide_eq_true rfl) ?_
  refine aI (alike_p c d) (fun e=>?_) (fun e=>?_)
  ·refine a9 _ (aq (by omega)) ?_
   refine Has.intro ⟨i+1,⟨hlt,fun j c' d' hj h1 h2=>?_⟩,by omega,⟨rfl,rfl,rfl,rfl,rfl,rfl,trivial⟩,_,rfl⟩
   by_cases ej:j=i
   ·subst ej
    rw [hcg] at h1; rw [hdg] at h2
    injection h1 with h1; injection h2 with h2
    rw [←h1,←h2]; exact e
   ·exact hA j c' d' (by omega) h1 h2
  ·exact Has.intro (Has.intro (Has.intro (no (fun h=>e (h.2 i c d hcg hdg)))))
 ·have:i=a.length:=by omega
  subst this
  exact Has.intro (Has.intro (Has.intro (yes ⟨hab,fun j c d h1 h2=>hA j c d (List.getElem?_eq_some_iff.1 h1).1 h1 h2⟩)))
set_option maxHeartbeats 1000000 in
theorem kin_ok (x y:Ext) (a b:Pd) (hl:a.l.length≤maxLen):EP (EE env) 117 [.agg (pdc a x),.agg (pdc b y)]=some (.bool (decide (kinP a b))):=by
 refine Has.eq (aE ?_)
 (repeat (first | refine af ?_ | refine a8 _ rfl ?_ | refine ab rfl ?_ | refine ae rfl (of_decide_eq_true rfl) ?_ | refine aa rfl ?_))
 refine aD (c:=decide (a.name=b.name)) (str_beq _ _) ?_
 by_cases h1:a.name=b.name
 rotate_left
 ·rw [decide_eq_false h1]
  exact Has.intro (Has.intro (no (fun h=>h1 h.1)))
 rw [decide_eq_true h1]
 (repeat (first | refine af ?_ | refine a8 _ rfl ?_ | refine ab rfl ?_ | refine ae rfl (of_decide_eq_true rfl) ?_ | refine aa rfl ?_))
 refine aP (fun h2=>?_) (fun h2=>?_)
 rotate_left
 ·exact Has.intro (Has.intro (no (fun h=>h2 h.2.1)))
 (repeat (first | refine af ?_ | refine a8 _ rfl ?_ | refine ab rfl ?_ | refine ae rfl (of_decide_eq_true rfl) ?_ | refine aa rfl ?_))
 refine aP (fun h3=>?_) (fun h3=>?_)
 rotate_left
 ·exact Has.intro (Has.intro (no (fun h=>h3 h.2.2.1)))
 (repeat (first | refine af ?_ | refine a8 _ rfl ?_ | refine ab rfl ?_ | refine ae rfl (of_decide_eq_true rfl) ?_ | refine aa rfl ?_))
 refine aI (equalF_ok x y a.l b.l hl) (fun h4=>?_) (fun h4=>?_)
 ·exact Has.intro (Has.intro (yes ⟨h1,h2,h3,h4⟩))
 ·exact Has.intro (Has.intro (no (fun h=>h4 h.2.2.2)))
set_option maxHeartbeats 1000000 in
theorem rkin_ok (x y:Ext) (a b:Pd) (hl:a.l.length≤maxLen):EP (EE env) 83 [.agg (pdc a x),.agg (pdc b y)]=some (.bool (decide (kinP a b))):=by
 rw [aS] at hl
 refine Has.eq (aE ?_)
 (repeat (first | refine af ?_ | refine a8 _ rfl ?_ | refine ab rfl ?_ | refine ae rfl (of_decide_eq_true rfl) ?_ | refine aa rfl ?_))
 refine aD (c:=decide (a.name≠b.name)) (str_bne _ _) ?_
 by_cases h1:a.name=b.name
 rotate_left
 ·rw [decide_eq_true h1]
  exact Has.intro (Has.intro (no (fun h=>h1 h.1)))
 rw [decide_eq_false (fun h=>h h1)]
 (repeat (first | refine af ?_ | refine a8 _ rfl ?_ | refine ab rfl ?_ | refine ae rfl (of_decide_eq_true rfl) ?_ | refine aa rfl ?_))
 refine aO (fun h2=>?_) (fun h2=>?_)
 ·exact Has.intro (Has.intro (no (fun h=>h2 h.2.1)))
 (repeat (first | refine af ?_ | refine a8 _ rfl ?_ | refine ab rfl ?_ | refine ae rfl (of_decide_eq_true rfl) ?_ | refine aa rfl ?_))
 refine aO (fun h3=>?_) (fun h3=>?_)
 ·exact Has.intro (Has.intro (no (fun h=>h3 h.2.2.1)))
 (repeat (first | refine af ?_ | refine a8 _ rfl ?_ | refine ab rfl ?_ | refine ae rfl (of_decide_eq_true rfl) ?_ | refine aa rfl ?_))
 refine aO (fun h4=>?_) (fun h4=>?_)
 ·exact Has.intro (Has.intro (no (fun h=>h4 (by rw [h.2.2.2.1]))))
 (repeat (first | refine af ?_ | refine a8 _ rfl ?_ | refine ab rfl ?_ | refine ae rfl (of_decide_eq_true rfl) ?_ | refine aa rfl ?_))
 have hab:a.l.length=b.l.length:=by omega
 refine aw ?_
 refine aW (σ:=Nat) (fun i=>a.l.length-i) (fun i=>[(3,.ptr 1 0),(36,.pv (.sl x a.l.length (flat ct a.l))),(37,.pv (.int .i64 a.l.length)),(38,.pv (.int .i64 i))]) (fun _=>[.pcells (pdc a x),.pcells (pdc b y)])
  (fun i=>i≤a.l.length ∧ ∀ (j:Nat) (c d:Ct),j<i→a.l[j]? = some c→b.l[j]? = some d→kinC c d) (fun i ⟨hi,hA⟩ r J=>?_) 0 ⟨Nat.zero_le _,fun j c d h=>by omega⟩ [] ⟨rfl,rfl,rfl,rfl,trivial⟩ rfl
 refine ah (fun hc=>?_) (fun hc=>?_)
 ·have hlt:i<a.l.length:=by omega
  obtain ⟨c,hcg⟩:∃ c,a.l[i]? = some c:=⟨_,List.getElem?_eq_getElem hlt⟩
  obtain ⟨d,hdg⟩:∃ c,b.l[i]? = some c:=⟨_,List.getElem?_eq_getElem (show i<b.l.length by omega)⟩
  obtain ⟨g1,g2⟩:=aR ct_len hcg
  obtain ⟨f1,f2⟩:=aR ct_len hdg
  refine aa (by (first | rfl | (simp; done) | (simp; omega))) ?_
  refine ae g1 g2 ?_
  refine af ?_
  refine aa rfl ?_
  refine a9 (ct c) rfl ?_
  rw [aH]
  refine af ?_
  refine ab rfl ?_
  refine a8 _ rfl ?_
  refine ab rfl ?_
  refine aa (by (first | rfl | (simp; done) | (simp; omega))) ?_
  refine ab (v:=sv d.name) (by rw [at_ij]; exact flat_cell (j:=0) ct_len hdg (by decide)) ?_
  refine aD (c:=decide (c.name≠d.name)) (str_bne _ _) ?_
  by_cases e1:c.name=d.name
  rotate_left
  ·rw [decide_eq_true e1]
   exact Has.intro (Has.intro (Has.intro (no (fun h=>e1 (h.2.2.2.2 i c d hcg hdg).1))))
  rw [decide_eq_false (fun h=>h e1)]
  refine af ?_
  refine ae (v:=r3 c) rfl (of_decide_eq_true rfl) ?_
  refine a8 _ rfl ?_
  refine ab rfl ?_
  refine aa (by (first | rfl | (simp; done) | (simp; omega))) ?_
  obtain ⟨p1,p2⟩:=flat_part ct_len hdg (j:=7) (n:=3) (by decide)
  refine ae (v:=r3 d) (by rw [at_ij]; exact p1) (by rw [at_ij]; exact p2) ?_
  refine bj (r3_eq c d) ?_
  refine aD (c:=decide (¬ rC c d)) (by by_cases e:rC c d<;>simp [e]) ?_
  by_cases e2:rC c d
  ·rw [decide_eq_false (fun h=>h e2)]
   refine a9 _ (aq (by omega)) ?_
   refine Has.intro ⟨i+1,⟨hlt,fun j c' d' hj h1 h2=>?_⟩,by omega,⟨rfl,rfl,rfl,rfl,trivial⟩,_,List.append_assoc _ _ _⟩
   by_cases ej:j=i
   ·subst ej
    rw [hcg] at h1; rw [hdg] at h2
    injection h1 with h1; injection h2 with h2
    rw [←h1,←h2]; exact ⟨e1,e2⟩
   ·exact hA j c' d' (by omega) h1 h2
  ·rw [decide_eq_true e2]
   exact Has.intro (Has.intro (Has.intro (no (fun h=>e2 (h.2.2.2.2 i c d hcg hdg).2))))
 ·have:i=a.l.length:=by omega
  subst this
  exact Has.intro (Has.intro (Has.intro (yes ⟨h1,h2,h3,hab,fun j c d g1 g2=>hA j c d (List.getElem?_eq_some_iff.1 g1).1 g1 g2⟩)))
end Go.Proofs.YtflfdglnelbbiaaGreat
namespace Go.Proofs.YtflfdglnelbbiaaGreat
open Go Go.VM
structure En where
 d:Pd
 a:Pd
 dx:Ext
 ax:Ext
 age:Int
 due:Int
def en (e:En):List PV:=pdc e.d e.dx++pdc e.a e.ax++[.int .i64 e.age,.int .i64 e.due]
theorem en_len (e:En):(en e).length=10:=rfl
def smallE (e:En):Prop:=small e.d∧small e.a
def entP (e:En):Prop:=podP e.d∧podP e.a∧kinP e.d e.a∧classI e.d.l=classI e.a.l∧(0≤e.age∧e.age≤1099511627776)∧0≤e.due∧e.due<2 ^ e.d.l.length
noncomputable instance (e:En):Decidable (entP e):=Classical.propDecidable _
theorem six {n:Nat} (h:1≤n∧n≤6):n=1∨n=2∨n=3∨n=4∨n=5∨n=6:=by omega
theorem shl1 {n:Nat} (h:1≤n∧n≤6):IntKind.i64.wrap (1*2 ^ (min ((n:Nat):Int).toNat IntKind.i64.bits))=2 ^ n:=by
 rcases six h with rfl | rfl | rfl | rfl | rfl | rfl<;>rfl
set_option maxHeartbeats 2000000 in
theorem ent_ok (e:En) (hs:smallE e):EP (EE env) 104 [.agg (en e)]=some (.bool (decide (entP e))):=by
 obtain ⟨s1,s2⟩:=hs
 refine Has.eq (aE ?_)
 (refine a8 (.pcells (en e)) rfl ?_)
 (refine ae (v:=pdc e.d e.dx) rfl (of_decide_eq_true rfl) ?_)
 refine aI (pod_p e.dx e.d s1) (fun h1=>?_) (fun h1=>?_)
 rotate_left
 ·exact Has.intro (Has.intro (no fun h=>h1 h.1))
 (refine a8 (.pcells (en e)) rfl ?_)
 (refine ae (v:=pdc e.a e.ax) rfl (of_decide_eq_true rfl) ?_)
 refine aI (pod_p e.ax e.a s2) (fun h2=>?_) (fun h2=>?_)
 rotate_left
 ·exact Has.intro (Has.intro (no fun h=>h2 h.2.1))
 (refine a8 (.pcells (en e)) rfl ?_)
 (refine ae (v:=pdc e.d e.dx) rfl (of_decide_eq_true rfl) ?_)
 (refine a8 (.pcells (en e)) rfl ?_)
 (refine ae (v:=pdc e.a e.ax) rfl (of_decide_eq_true rfl) ?_)
 refine aI (kin_ok e.dx e.ax e.d e.a s1.2.1) (fun h3=>?_) (fun h3=>?_)
 rotate_left
 ·exact Has.intro (Has.intro (no fun h=>h3 h.2.2.1))
 (refine a8 (.pcells (en e)) rfl ?_)
 (refine ae (v:=pdc e.d e.dx) rfl (of_decide_eq_true rfl) ?_)
 refine aj (class_p e.dx e.d s1.2.1) ?_
 (refine a8 (.pcells (en e)) rfl ?_)
 (refine ae (v:=pdc e.a e.ax) rfl (of_decide_eq_true rfl) ?_)
 refine aj (class_p e.ax e.a s2.2.1) ?_
 refine aP (fun h4=>?_) (fun h4=>?_)
 rotate_left
 ·exact Has.intro (Has.intro (no fun h=>h4 h.2.2.2.1))
 (refine a8 (.pcells (en e)) rfl ?_)
 refine ab rfl ?_
 refine ah (fun h5=>?_) (fun h5=>?_)
 rotate_left
 ·exact Has.intro (Has.intro (no fun h=>h5 h.2.2.2.2.1.1))
 (refine a8 (.pcells (en e)) rfl ?_)
 refine ab rfl ?_
 refine ah (fun h6=>?_) (fun h6=>?_)
 rotate_left
 ·exact Has.intro (Has.intro (no fun h=>h6 h.2.2.2.2.1.2))
 (refine a8 (.pcells (en e)) rfl ?_)
 refine ab rfl ?_
 refine ah (fun h7=>?_) (fun h7=>?_)
 rotate_left
 ·exact Has.intro (Has.intro (no fun h=>h7 h.2.2.2.2.2.1))
 (refine a8 (.pcells (en e)) rfl ?_)
 refine ab rfl ?_
 (refine a8 (.pcells (en e)) rfl ?_)
 refine ab rfl ?_
 refine aa (by (first | rfl | (simp; done) | (simp; omega))) ?_
 refine a9 _ (shl1 h1.2.2.2.1) ?_
 refine ah (fun h8=>?_) (fun h8=>?_)
 ·exact Has.intro (Has.intro (yes ⟨h1,h2,h3,h4,⟨h5,h6⟩,h7,h8⟩))
 ·exact Has.intro (Has.intro (no fun h=>h8 h.2.2.2.2.2.2))
theorem pow_step {i:Nat} (h:i≤6):IntKind.i64.wrap ((2:Int) ^ i*2)=2 ^ (i+1):=by
 have:i=0∨i=1∨i=2∨i=3∨i=4∨i=5∨i=6:=by omega
 rcases this with rfl | rfl | rfl | rfl | rfl | rfl | rfl<;>rfl
set_option maxHeartbeats 2000000 in
theorem rent_ok (e:En) (hs:smallE e):EP (EE env) 43 [.agg (en e)]=some (.bool (decide (entP e))):=by
 obtain ⟨s1,s2⟩:=hs
 refine Has.eq (aE ?_)
 (refine a8 (.pcells (en e)) rfl ?_)
 (refine ae (v:=pdc e.d e.dx) rfl (of_decide_eq_true rfl) ?_)
 (refine a8 (.pcells (en e)) rfl ?_)
 (refine ae (v:=pdc e.a e.ax) rfl (of_decide_eq_true rfl) ?_)
 (refine a8 _ rfl ?_)
 refine aa rfl ?_
 refine a9 (pdc e.d e.dx) rfl ?_
 (refine a8 _ rfl ?_)
 refine aa rfl ?_
 refine a9 (pdc e.a e.ax) rfl ?_
 refine bq rfl rfl ?_
 (refine a8 _ rfl ?_)
 (refine ae (v:=pdc e.d e.dx) rfl (of_decide_eq_true rfl) ?_)
 refine aI (rpod_p e.dx e.d s1) (fun h1=>?_) (fun h1=>?_)
 rotate_left
 ·exact Has.intro (Has.intro (no fun h=>h1 h.1))
 (refine a8 _ rfl ?_)
 (refine ae (v:=pdc e.a e.ax) rfl (of_decide_eq_true rfl) ?_)
 refine aI (rpod_p e.ax e.a s2) (fun h2=>?_) (fun h2=>?_)
 rotate_left
 ·exact Has.intro (Has.intro (no fun h=>h2 h.2.1))
 (refine a8 _ rfl ?_)
 (refine ae (v:=pdc e.d e.dx) rfl (of_decide_eq_true rfl) ?_)
 (refine a8 _ rfl ?_)
 (refine ae (v:=pdc e.a e.ax) rfl (of_decide_eq_true rfl) ?_)
 refine aI (rkin_ok e.dx e.ax e.d e.a s1.2.1) (fun h3=>?_) (fun h3=>?_)
 rotate_left
 ·exact Has.intro (Has.intro (no fun h=>h3 h.2.2.1))
 (refine a8 _ rfl ?_)
 (refine ae (v:=pdc e.d e.dx) rfl (of_decide_eq_true rfl) ?_)
 refine aj (rclass_p e.dx e.d s1.2.1) ?_
 (refine a8 _ rfl ?_)
 (refine ae (v:=pdc e.a e.ax) rfl (of_decide_eq_true rfl) ?_)
 refine aj (rclass_p e.ax e.a s2.2.1) ?_
 refine aO (fun h4=>?_) (fun h4=>?_)
 ·exact Has.intro (Has.intro (no fun h=>h4 h.2.2.2.1))
 (refine a8 _ rfl ?_)
 refine ab rfl ?_
 refine ah (fun h5=>?_) (fun h5=>?_)
 ·exact Has.intro (Has.intro (no fun h=>by have:=h.2.2.2.2.1.1; omega))
 (refine a8 _ rfl ?_)
 refine ab rfl ?_
 refine ah (fun h6=>?_) (fun h6=>?_)
 ·exact Has.intro (Has.intro (no fun h=>by have:=h.2.2.2.2.1.2; omega))
 (refine a8 _ rfl ?_)
 refine ab rfl ?_
 refine ah (fun h7=>?_) (fun h7=>?_)
 ·exact Has.intro (Has.intro (no fun h=>by have:=h.2.2.2.2.2.1; omega))
 (refine a8 _ rfl ?_)
 refine ab rfl ?_
 have h6':=h1.2.2.2.1
 refine aw ?_
 refine bD e.d.l.length (fun i=>[(1,.ptr 0 0),(5,.pv (.int .i64 (2 ^ i))),(48,.pv (.int .i64 e.d.l.length)),(49,.pv (.int .i64 i))]) (fun _=>[.pcells (en e),.pcells (pdc e.d e.dx),.pcells (pdc e.a e.ax)]) (fun i hi r=>?_) (fun r=>?_) ⟨rfl,rfl,rfl,rfl,trivial⟩ rfl
 ·refine ah (fun hc=>?_) (fun hc=>?_)
  ·refine a9 _ (pow_step (by omega)) ?_
   refine a9 _ (aq (by omega)) ?_
   exact Has.intro ⟨⟨rfl,rfl,rfl,rfl,trivial⟩,rfl⟩
  ·omega
 ·refine ah (fun hc=>?_) (fun hc=>?_)
  ·omega
  refine Has.intro ?_
  (refine a8 _ rfl ?_)
  refine ab rfl ?_
  refine ah (fun h8=>?_) (fun h8=>?_)
  ·exact Has.intro (Has.intro (yes ⟨h1,h2,h3,by omega,⟨by omega,by omega⟩,by omega,h8⟩))
  ·exact Has.intro (Has.intro (no fun h=>h8 h.2.2.2.2.2.2))
end Go.Proofs.YtflfdglnelbbiaaGreat
namespace Go.Proofs.YtflfdglnelbbiaaGreat
open Go Go.VM
def lt (a b:List UInt8):Bool:=Op.bytesLess a b
theorem lt_irr (a:List UInt8):lt a a=false:=by
 induction a with
 | nil=>rfl
 | cons x a ih=>simp only [lt,Op.bytesLess] at ih ⊢; simp [ih]
theorem lt_cons (x y:UInt8) (a b:List UInt8):lt (x::a) (y::b)=(decide (x.toNat<y.toNat)||(decide (x=y)&&lt a b)):=by
 show (decide (x<y)||(x==y&&Op.bytesLess a b))=_
 rw [show (x==y)=decide (x=y) from rfl]
 simp only [UInt8.lt_iff_toNat_lt]
 rfl
theorem lt_asym:∀ (a b:List UInt8),lt a b=true→lt b a=false:=by
 intro a
 induction a with
 | nil=>intro b; cases b<;>simp [lt,Op.bytesLess]
 | cons x a ih=>
   intro b
   cases b with
   | nil=>simp [lt,Op.bytesLess]
   | cons y b=>
     rw [lt_cons,lt_cons]
     intro h
     simp only [Bool.or_eq_true,Bool.and_eq_true,decide_eq_true_eq,Bool.or_eq_false_iff,Bool.and_eq_false_iff,decide_eq_false_iff_not] at h ⊢
     rcases h with h | ⟨h1,h2⟩
     ·exact ⟨by omega,.inl fun e=>by subst e; omega⟩
     ·subst h1; exact ⟨by omega,.inr (ih _ h2)⟩
theorem lt_tri:∀ (a b:List UInt8),lt a b=false→lt b a=false→a=b:=by
 intro a
 induction a with
 | nil=>intro b; cases b<;>simp [lt,Op.bytesLess]
 | cons x a ih=>
   intro b
   cases b with
   | nil=>simp [lt,Op.bytesLess]
   | cons y b=>
     rw [lt_cons,lt_cons]
     intro h g
     simp only [Bool.or_eq_false_iff,Bool.and_eq_false_iff,decide_eq_false_iff_not] at h g
     have e:x=y:=UInt8.toNat_inj.1 (by omega)
     subst e
     rw [ih b (h.2.resolve_left (fun h=>h rfl)) (g.2.resolve_left (fun h=>h rfl))]
theorem lt_trans:∀ (a b c:List UInt8),lt a b=true→lt b c=true→lt a c=true:=by
 intro a
 induction a with
 | nil=>intro b c h g; cases b<;>cases c<;>simp_all [lt,Op.bytesLess]
 | cons x a ih=>
   intro b c h g
   cases b with
   | nil=>simp [lt,Op.bytesLess] at h
   | cons y b=>
     cases c with
     | nil=>simp [lt,Op.bytesLess] at g
     | cons z c=>
       rw [lt_cons] at h g ⊢
       simp only [Bool.or_eq_true,Bool.and_eq_true,decide_eq_true_eq] at h g ⊢
       rcases h with h | ⟨h1,h2⟩
       ·rcases g with g | ⟨g1,g2⟩
        ·exact .inl (by omega)
        ·subst g1; exact .inl h
       ·subst h1
        rcases g with g | ⟨g1,g2⟩
        ·exact .inl g
        ·exact .inr ⟨g1,ih _ _ h2 g2⟩
theorem str_lss (a b:List UInt8):Op.bytesLess (⟨a.toArray⟩:ByteArray).toList (⟨b.toArray⟩:ByteArray).toList=lt a b:=by
 unfold lt; simp
theorem str_gtr (a b:List UInt8):(!(Op.bytesLess (⟨a.toArray⟩:ByteArray).toList (⟨b.toArray⟩:ByteArray).toList||(⟨a.toArray⟩:ByteArray).toList==(⟨b.toArray⟩:ByteArray).toList))=lt b a:=by
 rw [str_lss,str_beq]
 cases h:lt a b with
 | true=>simp [lt_asym a b h]
 | false=>
   by_cases e:a=b
   ·subst e; simp [h]
   ·simp only [Bool.false_or,decide_eq_false e,Bool.not_false]
    cases g:lt b a with
    | true=>rfl
    | false=>exact absurd (lt_tri a b h g) e
def cmpS (a b:List UInt8):Int:=if lt a b then -1 else if lt b a then 1 else 0
def cmpI (a b:Int):Int:=if a<b then -1 else if b<a then 1 else 0
theorem nan_s (a:List UInt8):EP (EE env) 123 [sv a]=some (.bool false):=by
 refine Has.eq (aE ?_)
 refine aD (c:=false) (by rw [str_bne]; simp) ?_
 exact Has.intro (Has.intro rfl)
theorem nan_i (a:Int):EP (EE env) 124 [.int .i64 a]=some (.bool false):=by
 refine Has.eq (aE ?_)
 refine aO (fun h=>absurd rfl h) (fun h=>?_)
 exact Has.intro (Has.intro rfl)
theorem cmpS_ok (a b:List UInt8):EP (EE env) 108 [sv a,sv b]=some (.int .i64 (cmpS a b)):=by
 refine Has.eq (aE ?_)
 refine aj (nan_s a) ?_
 refine aj (nan_s b) ?_
 refine aD (str_lss a b) ?_
 unfold cmpS
 cases lt a b
 ·refine aD (str_gtr a b) ?_
  cases lt b a
  ·exact Has.intro (Has.intro rfl)
  ·exact Has.intro (Has.intro rfl)
 ·exact Has.intro (Has.intro rfl)
theorem cmpI_ok (a b:Int):EP (EE env) 109 [.int .i64 a,.int .i64 b]=some (.int .i64 (cmpI a b)):=by
 refine Has.eq (aE ?_)
 refine aj (nan_i a) ?_
 refine aj (nan_i b) ?_
 unfold cmpI
 refine ah (fun h=>?_) (fun h=>?_)
 ·rw [if_pos h]; exact Has.intro (Has.intro rfl)
 rw [if_neg h]
 refine ah (fun h=>?_) (fun h=>?_)
 ·rw [if_pos h]; exact Has.intro (Has.intro rfl)
 ·rw [if_neg h]; exact Has.intro (Has.intro rfl)
structure Ow where
 pod:List UInt8
 ctr:List UInt8
 kind:Int
def ow (o:Ow):List PV:=[sv o.pod,sv o.ctr,.int .i64 o.kind]
def or3 (a b c:Int):Int:=if a≠0 then a else if b≠0 then b else c
theorem or3_ok (a b c:Int) (x:Ext):EP (EE env) 107 [.sl x 3 [.int .i64 a,.int .i64 b,.int .i64 c]]=some (.int .i64 (or3 a b c)):=by
 refine Has.eq (aE ?_)
 refine aw ?_
 refine aC (σ:=Nat) (fun i=>3-i) (fun i=>[(3,.pv (.int .i64 0)),(6,.pv (.sl x 3 [.int .i64 a,.int .i64 b,.int .i64 c])),(7,.pv (.int .i64 3)),(8,.pv (.int .i64 i))]) (fun _=>[])
  (fun i=>i≤3∧(0<i→a=0)∧(1<i→b=0)∧(2<i→c=0)) (fun i ⟨hi,q0,q1,q2⟩ r=>?_) 0 ⟨by decide,by omega,by omega,by omega⟩ ⟨rfl,rfl,rfl,rfl,trivial⟩ rfl
 refine ah (fun hc=>?_) (fun hc=>?_)
 ·have h3:i=0∨i=1∨i=2:=by omega
  rcases h3 with rfl | rfl | rfl
  ·refine aa rfl ?_
   refine ab rfl ?_
   refine aO (fun h=>?_) (fun h=>?_)
   ·exact Has.intro (Has.intro (Has.intro (by unfold or3; rw [if_pos h])))
   ·refine a9 _ (aq (by omega)) ?_
    exact Has.intro ⟨1,⟨by decide,fun _=>h,by omega,by omega⟩,by decide,⟨rfl,rfl,rfl,rfl,trivial⟩,rfl⟩
  ·have qa:=q0 (by decide)
   refine aa rfl ?_
   refine ab rfl ?_
   refine aO (fun h=>?_) (fun h=>?_)
   ·exact Has.intro (Has.intro (Has.intro (by unfold or3; rw [if_neg (fun g=>g qa),if_pos h])))
   ·refine a9 _ (aq (by omega)) ?_
    exact Has.intro ⟨2,⟨by decide,fun _=>qa,fun _=>h,by omega⟩,by decide,⟨rfl,rfl,rfl,rfl,trivial⟩,rfl⟩
  ·have qa:=q0 (by decide)
   have qb:=q1 (by decide)
   refine aa rfl ?_
   refine ab rfl ?_
   refine aO (fun h=>?_) (fun h=>?_)
   ·exact Has.intro (Has.intro (Has.intro (by unfold or3; rw [if_neg (fun g=>g qa),if_neg (fun g=>g qb)])))
   ·refine a9 _ (aq (by omega)) ?_
    exact Has.intro ⟨3,⟨by decide,fun _=>qa,fun _=>qb,fun _=>h⟩,by decide,⟨rfl,rfl,rfl,rfl,trivial⟩,rfl⟩
 ·have e:i=3:=by omega
  subst e
  exact Has.intro (Has.intro (Has.intro (by unfold or3; rw [if_neg (fun g=>g (q0 (by decide))),if_neg (fun g=>g (q1 (by decide))),q2 (by decide)])))
def cmpO (a b:Ow):Int:=or3 (cmpS a.pod b.pod) (cmpS a.ctr b.ctr) (cmpI a.kind b.kind)
theorem compare_ok (a b:Ow):EP (EE env) 89 [.agg (ow a),.agg (ow b)]=some (.int .i64 (cmpO a b)):=by
 refine Has.eq (aE ?_)
 (repeat (first | refine af ?_ | refine a8 _ rfl ?_ | refine ab rfl ?_ | refine ae rfl (of_decide_eq_true rfl) ?_ | refine aa rfl ?_))
 refine aj (cmpS_ok a.pod b.pod) ?_
 (repeat (first | refine af ?_ | refine a8 _ rfl ?_ | refine ab rfl ?_ | refine ae rfl (of_decide_eq_true rfl) ?_ | refine aa rfl ?_))
 refine aj (cmpS_ok a.ctr b.ctr) ?_
 (repeat (first | refine af ?_ | refine a8 _ rfl ?_ | refine ab rfl ?_ | refine ae rfl (of_decide_eq_true rfl) ?_ | refine aa rfl ?_))
 refine aj (cmpI_ok a.kind b.kind) ?_
 refine aj (or3_ok _ _ _ _) ?_
 exact Has.intro (Has.intro rfl)
def ahead (a b:Ow):Bool:=if a.pod≠b.pod then lt a.pod b.pod else if a.ctr≠b.ctr then lt a.ctr b.ctr else decide (a.kind<b.kind)
theorem before_ok (a b:Ow):EP (EE env) 46 [.agg (ow a),.agg (ow b)]=some (.bool (ahead a b)):=by
 refine Has.eq (aE ?_)
 unfold ahead
 (repeat (first | refine af ?_ | refine a8 _ rfl ?_ | refine ab rfl ?_ | refine ae rfl (of_decide_eq_true rfl) ?_ | refine aa rfl ?_))
 refine aD (str_bne a.pod b.pod) ?_
 by_cases h1:a.pod=b.pod
 ·rw [decide_eq_false (fun h=>h h1),if_neg (fun h=>h h1)]
  (repeat (first | refine af ?_ | refine a8 _ rfl ?_ | refine ab rfl ?_ | refine ae rfl (of_decide_eq_true rfl) ?_ | refine aa rfl ?_))
  refine aD (str_bne a.ctr b.ctr) ?_
  by_cases h2:a.ctr=b.ctr
  ·rw [decide_eq_false (fun h=>h h2),if_neg (fun h=>h h2)]
   (repeat (first | refine af ?_ | refine a8 _ rfl ?_ | refine ab rfl ?_ | refine ae rfl (of_decide_eq_true rfl) ?_ | refine aa rfl ?_))
   refine ah (fun h=>?_) (fun h=>?_)
   ·rw [decide_eq_true h]; exact Has.intro (Has.intro rfl)
   ·rw [decide_eq_false h]; exact Has.intro (Has.intro rfl)
  ·rw [decide_eq_true h2,if_pos h2]
   (repeat (first | refine af ?_ | refine a8 _ rfl ?_ | refine ab rfl ?_ | refine ae rfl (of_decide_eq_true rfl) ?_ | refine aa rfl ?_))
   refine aD (str_lss a.ctr b.ctr) ?_
   cases lt a.ctr b.ctr<;>exact Has.intro (Has.intro rfl)
 ·rw [decide_eq_true h1,if_pos h1]
  (repeat (first | refine af ?_ | refine a8 _ rfl ?_ | refine ab rfl ?_ | refine ae rfl (of_decide_eq_true rfl) ?_ | refine aa rfl ?_))
  refine aD (str_lss a.pod b.pod) ?_
  cases lt a.pod b.pod<;>exact Has.intro (Has.intro rfl)
theorem cmp_ahead (a b:Ow):cmpO a b<0↔ahead a b=true:=by
 unfold cmpO ahead or3 cmpS cmpI
 by_cases h1:a.pod=b.pod
 ·simp only [h1,lt_irr]
  by_cases h2:a.ctr=b.ctr
  ·simp only [h2,lt_irr]
   by_cases h3:a.kind<b.kind
   ·simp [h3]
   ·by_cases h4:b.kind<a.kind<;>simp [h3,h4]
  ·simp only [ne_eq,h2,not_false_eq_true,if_true,not_true_eq_false,if_false,Bool.false_eq_true]
   cases g:lt a.ctr b.ctr
   ·cases g2:lt b.ctr a.ctr
    ·exact absurd (lt_tri _ _ g g2) h2
    ·simp
   ·simp
 ·simp only [ne_eq,h1,not_false_eq_true,if_true]
  cases g:lt a.pod b.pod
  ·cases g2:lt b.pod a.pod
   ·exact absurd (lt_tri _ _ g g2) h1
   ·simp
  ·simp
def findEF (name:List UInt8):Nat→List En→Int
 | _,[] => -1
 | i,e::l=>if e.d.name=name then (i:Int) else findEF name (i+1) l
def findE (name:List UInt8) (l:List En):Int:=findEF name 0 l
theorem findEF_step {name:List UInt8} {l:List En} {i:Nat} {c:En} (h:l[i]? = some c):findEF name i (l.drop i)=if c.d.name=name then (i:Int) else findEF name (i+1) (l.drop (i+1)):=by
 rw [drop_of h]; rfl
structure Ho where
 o:Ow
 sp:List Int
def hoc (h:Ho):List PV:=ow h.o++h.sp.map (PV.int .i64)
structure St where
 next:Int
 es:List En
 hs:List Ho
def stc (s:St) (x y:Ext):List PV:=[.int .i64 s.next,.sl x s.es.length (flat en s.es),.sl y s.hs.length (flat hoc s.hs)]
theorem isE_ok (c:En) (name:List UInt8) (q:Nat) (H:Heap) (hq:hget H q = .pcells [sv name]) :
 EE env (.fn 120) [.pv (.agg (en c)),.ptr q 0] H=some (.pv (.bool (decide (c.d.name=name))),H++[.pcells (en c)]):=by
 refine Has.eq (aK ?_)
 refine af ?_
 refine ab rfl ?_
 refine a8 _ ((aA _ (ap hq (by intro h; cases h))).trans hq) ?_
 refine ab rfl ?_
 refine aD (c:=decide (c.d.name=name)) (str_beq c.d.name name) ?_
 exact Has.intro rfl
set_option maxHeartbeats 1000000 in
theorem indexE_ok (x:Ext) (l:List En) (hl:l.length≤maxLen) (name:List UInt8) (q:Nat) (H:Heap) (hq:hget H q = .pcells [sv name]) :
 Has (EE env (.fn 119) [.pv (.sl x l.length (flat en l)),.fn 120 [] [.ptr q 0]] H) (fun y=>y.1 = .pv (.int .i64 (findE name l)) ∧ ∃ J,y.2=H++J):=by
 rw [aS] at hl
 refine aK ?_
 refine aw ?_
 refine aW (σ:=Nat) (fun i=>l.length-i) (fun i=>[(0,.pv (.sl x l.length (flat en l))),(1,.fn 120 [] [.ptr q 0]),(6,.pv (.sl x l.length (flat en l))),(7,.pv (.int .i64 l.length)),(8,.pv (.int .i64 i))]) (fun _=>H) (fun i=>i≤l.length∧findE name l=findEF name i (l.drop i)) (fun i ⟨hi,he⟩ r J=>?_) 0 ⟨Nat.zero_le _,rfl⟩ [] ⟨rfl,rfl,rfl,rfl,rfl,trivial⟩ (List.append_nil _).symm
 refine ah (fun hc=>?_) (fun hc=>?_)
 ·have hlt:i<l.length:=by omega
  obtain ⟨c,hcg⟩:∃ c,l[i]? = some c:=⟨_,List.getElem?_eq_getElem hlt⟩
  obtain ⟨g1,g2⟩:=aR en_len hcg
  rw [findEF_step hcg] at he
  have hq':=(aA J (ap hq ((by intro h; cases h)))).trans hq
  refine aa (by (first | rfl | (simp; done) | (simp; omega))) ?_
  refine ae g1 g2 ?_
  refine au (isE_ok c name q _ hq') ?_
  by_cases hn:c.d.name=name
  ·rw [decide_eq_true hn]
   rw [if_pos hn] at he
   refine Has.intro (Has.intro ⟨?_,_,List.append_assoc _ _ _⟩)
   rw [he]; rfl
  ·rw [decide_eq_false hn]
   rw [if_neg hn] at he
   refine a9 _ (aq (by omega)) ?_
   exact Has.intro ⟨i+1,⟨hlt,he⟩,by omega,⟨rfl,rfl,rfl,rfl,rfl,trivial⟩,_,List.append_assoc _ _ _⟩
 ·have:i=l.length:=by omega
  subst this
  rw [List.drop_length] at he
  refine Has.intro (Has.intro ⟨?_,J,rfl⟩)
  rw [he]; rfl
theorem findE_ok (s:St) (x y:Ext) (hl:s.es.length≤maxLen) (name:List UInt8):EP (EE env) 105 [.agg (stc s x y),sv name]=some (foundB (findE name s.es)):=by
 refine Has.eq (aE ?_)
 (repeat (first | refine af ?_ | refine a8 _ rfl ?_ | refine ab rfl ?_ | refine ae rfl (of_decide_eq_true rfl) ?_ | refine aa rfl ?_))
 refine am ((indexE_ok x s.es hl name 1 [.pcells (stc s x y),.pcells [sv name]] rfl).mono fun y hy=>?_)
 obtain ⟨v,H'⟩:=y
 obtain ⟨rfl,J,rfl⟩:=hy
 refine ao ?_
 refine boolK_has_keep ?_
 exact Has.intro (Has.intro rfl)
set_option maxHeartbeats 1000000 in
theorem rfindE_ok (s:St) (x y:Ext) (hl:s.es.length≤maxLen) (name:List UInt8):EP (EE env) 44 [.agg (stc s x y),sv name]=some (.int .i64 (findE name s.es)):=by
 rw [aS] at hl
 refine Has.eq (aE ?_)
 (repeat (first | refine af ?_ | refine a8 _ rfl ?_ | refine ab rfl ?_ | refine ae rfl (of_decide_eq_true rfl) ?_ | refine aa rfl ?_))
 refine aw ?_
 refine aW (σ:=Nat) (fun i=>s.es.length-i) (fun i=>[(1,.pv (sv name)),(8,.pv (.sl x s.es.length (flat en s.es))),(9,.pv (.int .i64 s.es.length)),(10,.pv (.int .i64 i))]) (fun _=>[.pcells (stc s x y)]) (fun i=>i≤s.es.length∧findE name s.es=findEF name i (s.es.drop i)) (fun i ⟨hi,he⟩ r J=>?_) 0 ⟨Nat.zero_le _,rfl⟩ [] ⟨rfl,rfl,rfl,rfl,trivial⟩ rfl
 refine ah (fun hc=>?_) (fun hc=>?_)
 ·have hlt:i<s.es.length:=by omega
  obtain ⟨c,hcg⟩:∃ c,s.es[i]? = some c:=⟨_,List.getElem?_eq_getElem hlt⟩
  obtain ⟨g1,g2⟩:=aR en_len hcg
  rw [findEF_step hcg] at he
  refine aa (by (first | rfl | (simp; done) | (simp; omega))) ?_
  refine ae g1 g2 ?_
  refine af ?_
  refine aa rfl ?_
  refine a9 (en c) rfl ?_
  rw [aH]
  refine af ?_
  refine ab rfl ?_
  refine aD (c:=decide (c.d.name=name)) (str_beq c.d.name name) ?_
  by_cases hn:c.d.name=name
  ·rw [decide_eq_true hn]
   rw [if_pos hn] at he
   refine Has.intro (Has.intro (Has.intro ?_))
   rw [he]
  ·rw [decide_eq_false hn]
   rw [if_neg hn] at he
   refine a9 _ (aq (by omega)) ?_
   exact Has.intro ⟨i+1,⟨hlt,he⟩,by omega,⟨rfl,rfl,rfl,rfl,trivial⟩,_,List.append_assoc _ _ _⟩
 ·have:i=s.es.length:=by omega
  subst this
  rw [List.drop_length] at he
  refine Has.intro (Has.intro (Has.intro ?_))
  rw [he]; rfl
end Go.Proofs.YtflfdglnelbbiaaGreat
namespace Go.Proofs.YtflfdglnelbbiaaGreat
open Go Go.VM
def mp (l:List (Int × Int)):List (PV × PV):=l.map fun x=>(.int .i64 x.1,.int .i64 x.2)
def lk (a:Int):List (Int × Int)→Nat→Option (Nat × PV)
 | [],_=>none
 | e::l,i=>if a=e.1 then some (i,.int .i64 e.2) else lk a l (i+1)
def pt (a v:Int):List (Int × Int)→List (Int × Int)
 | []=>[(a,v)]
 | e::l=>if a=e.1 then (a,v)::l else e::pt a v l
def vl (a:Int):List (Int × Int)→Int
 | []=>0
 | e::l=>if a=e.1 then e.2 else vl a l
theorem mf_mp (a:Int):∀ (l:List (Int × Int)) (i:Nat),mapFind .i (.int .i64 a) (mp l) i=some (lk a l i)
 | [],_=>rfl
 | e::l,i=>by
   have ih:=mf_mp a l (i+1)
   show mapFind .i (.int .i64 a) ((.int .i64 e.1,.int .i64 e.2)::mp l) i=_
   by_cases h:a=e.1
   ·simp only [mapFind,keyEq,kindEq,lk,if_pos h]
    rw [show (a==e.1)=true from beq_iff_eq.2 h]
    rfl
   ·simp only [mapFind,keyEq,kindEq,lk,if_neg h]
    rw [show (a==e.1)=false from beq_eq_false_iff_ne.2 h]
    exact ih
theorem lv_mp (a:Int):∀ (l:List (Int × Int)) (i:Nat),lookV false (.int .i64 0) (lk a l i) = .int .i64 (vl a l)
 | [],_=>rfl
 | e::l,i=>by
   unfold lk vl
   split
   ·rfl
   ·exact lv_mp a l (i+1)
theorem put_mp (a v:Int):∀ (l p:List (Int × Int)),mapPut (mp (p++l)) (.int .i64 a) (.int .i64 v) (lk a l p.length)=mp (p++pt a v l)
 | [],p=>by simp [lk,pt,mapPut,mp]
 | e::l,p=>by
   unfold lk pt
   split
   ·rename_i h
    simp [mapPut,mp]
   ·have:=put_mp a v l (p++[e])
    simpa using this
theorem vl_pt (a v b:Int):∀ l:List (Int × Int),vl b (pt a v l)=if b=a then v else vl b l
 | []=>by simp [pt,vl]
 | e::l=>by
   have ih:=vl_pt a v b l
   unfold pt
   by_cases h:a=e.1
   ·rw [if_pos h]
    simp only [vl]
    by_cases hb:b=a
    ·simp [hb]
    ·rw [if_neg hb,if_neg hb,if_neg (by omega)]
   ·rw [if_neg h]
    simp only [vl]
    by_cases hb:b=e.1
    ·rw [if_pos hb,if_neg (by omega),if_pos hb]
    ·rw [if_neg hb,ih,if_neg hb]
theorem str_geq (a b:List UInt8):(!Op.bytesLess (⟨a.toArray⟩:ByteArray).toList (⟨b.toArray⟩:ByteArray).toList)=decide (lt a b=false):=by
 rw [str_lss]; cases lt a b<;>rfl
def okE (s:St) (i:Nat) (e:En):Prop:=entP e∧e.age<s.next ∧ ∀ (j:Nat) (f:En),j<i→s.es[j]? = some f→f.age≠e.age∧lt f.d.name e.d.name=true
def entsP (s:St):Prop:=∀ (i:Nat) (e:En),s.es[i]? = some e→okE s i e
noncomputable instance (s:St):Decidable (entsP s):=Classical.propDecidable _
def smallS (s:St):Prop:=s.es.length≤maxLen∧s.hs.length≤maxLen∧(∀ e∈s.es,smallE e) ∧ ∀ h∈s.hs,h.sp.length=8
set_option maxHeartbeats 2000000 in
theorem ents_ok (s:St) (x y:Ext) (hs:smallS s) (h16:s.es.length≤16):EP (EE env) 87 [.agg (stc s x y)]=some (.bool (decide (entsP s))):=by
 obtain ⟨_,_,hE,_⟩:=hs
 refine Has.eq (aE ?_)
 (refine a8 _ rfl ?_)
 refine ab rfl ?_
 refine aw ?_
 refine aW (σ:=Nat × List (Int × Int)) (fun t=>s.es.length-t.1) (fun t=>[(1,.ptr 0 0),(3,.map 1),(8,.pv (.sl x s.es.length (flat en s.es))),(9,.pv (.int .i64 s.es.length)),(10,.pv (.int .i64 t.1))]) (fun t=>[.pcells (stc s x y),.map (mp t.2)])
  (fun t=>t.1≤s.es.length∧(∀ (k:Nat) (e:En),k<t.1→s.es[k]? = some e→okE s k e)∧(∀ a,(0≤vl a t.2∧vl a t.2≤1)) ∧ ∀ a,vl a t.2=1 ↔ ∃ (k:Nat) (e:En),k<t.1∧s.es[k]? = some e∧e.age=a) (fun ⟨i,l⟩ ⟨hi,hA,hB,hC⟩ r J=>?_) (0,[]) ⟨Nat.zero_le _,fun k e h=>by omega,fun a=>by simp [vl],fun a=>⟨fun h=>by simp [vl] at h,fun ⟨k,e,h,_⟩=>by omega⟩⟩ [] ⟨rfl,rfl,rfl,rfl,rfl,trivial⟩ rfl
 dsimp only at hi hA hB hC ⊢
 refine ah (fun hc=>?_) (fun hc=>?_)
 ·have hlt:i<s.es.length:=by omega
  obtain ⟨e,hcg⟩:∃ c,s.es[i]? = some c:=⟨_,List.getElem?_eq_getElem hlt⟩
  have hmem:e∈s.es:=List.mem_of_getElem? hcg
  obtain ⟨g1,g2⟩:=aR en_len hcg
  refine aa (by (first | rfl | (simp; done) | (simp; omega))) ?_
  refine ae g1 g2 ?_
  refine af ?_
  refine aa rfl ?_
  refine a9 (en e) rfl ?_
  rw [aH]
  refine af ?_
  refine ab (v:=.int .i64 e.age) rfl ?_
  refine a8 (.map (mp l)) rfl ?_
  refine bj (mf_mp e.age l 0) ?_
  rw [lv_mp]
  have hv:=hB e.age
  refine a9 (vl e.age l+1) (wrap_i64 (by omega) (by omega)) ?_
  refine a8 (.map (mp l)) rfl ?_
  refine bj (mf_mp e.age l 0) ?_
  have hput:=put_mp e.age (vl e.age l+1) l []
  rw [show mapPut (mp l) (.int .i64 e.age) (.int .i64 (vl e.age l+1)) (lk e.age l 0)=mp (pt e.age (vl e.age l+1) l) from hput]
  have k5:∀ m,hget (hset ([HObj.pcells (stc s x y),HObj.map (mp l)]++J++[HObj.pcells (en e)]) 1 (.map m)) (([HObj.pcells (stc s x y),HObj.map (mp l)]++J).length) = .pcells (en e):=fun m=>by
   rw [an _ _ (by simp)]; exact ak _ _
  have hH:∀ m,hset ([HObj.pcells (stc s x y),HObj.map (mp l)]++J++[HObj.pcells (en e)]) 1 (.map m)=[HObj.pcells (stc s x y),HObj.map m]++(J++[HObj.pcells (en e)]):=fun m=>rfl
  have k5:=k5 (mp (pt e.age (vl e.age l+1) l))
  rw [hH] at k5 ⊢
  generalize ([HObj.pcells (stc s x y),HObj.map (mp l)]++J).length=q at k5 ⊢
  (refine a8 (.pcells (en e)) k5 ?_)
  refine ae (v:=en e) rfl (of_decide_eq_true rfl) ?_
  refine aI (ent_ok e (hE e hmem)) (fun h1=>?_) (fun h1=>?_)
  rotate_left
  ·exact Has.intro (Has.intro (Has.intro (no fun h=>h1 (h i e hcg).1)))
  (refine a8 (.pcells (en e)) k5 ?_)
  refine ab (v:=.int .i64 e.age) rfl ?_
  (refine a8 _ rfl ?_)
  refine ab (v:=.int .i64 s.next) rfl ?_
  refine ah (fun h2=>?_) (fun h2=>?_)
  ·exact Has.intro (Has.intro (Has.intro (no fun h=>by have:=(h i e hcg).2.1; omega)))
  (refine a8 (.pcells (en e)) k5 ?_)
  refine ab (v:=.int .i64 e.age) rfl ?_
  (refine a8 _ rfl ?_)
  refine bj (mf_mp e.age _ 0) ?_
  rw [lv_mp,vl_pt,if_pos rfl]
  refine ah (fun h3=>?_) (fun h3=>?_)
  ·refine Has.intro (Has.intro (Has.intro (no fun h=>?_)))
   obtain ⟨k,f,q1,q2,q3⟩:=(hC e.age).1 (by omega)
   exact ((h i e hcg).2.2 k f q1 q2).1 q3
  have hage:∀ (j:Nat) (f:En),j<i→s.es[j]? = some f→f.age≠e.age:=fun j f hj hf he=>by
   have:=(hC e.age).2 ⟨j,f,hj,hf,he⟩
   omega
  have fin:okE s i e→Agr r []∧_:=fun ho=>⟨trivial,(⟨hlt,fun k f hk hf=>by
   by_cases ek:k=i
   ·subst ek; rw [hcg] at hf; injection hf with hf; subst hf; exact ho
   ·exact hA k f (by omega) hf,fun a=>by
   rw [vl_pt]; split
   ·omega
   ·exact hB a,fun a=>by
   rw [vl_pt]
   by_cases ea:a=e.age
   ·rw [if_pos ea]
    exact ⟨fun _=>⟨i,e,by omega,hcg,ea.symm⟩,fun _=>by omega⟩
   ·rw [if_neg ea,hC a]
    exact ⟨fun ⟨k,f,a1,a2,a3⟩=>⟨k,f,by omega,a2,a3⟩,fun ⟨k,f,a1,a2,a3⟩=>⟨k,f,by
     rcases Nat.lt_or_ge k i with h | h
     ·exact h
     ·have:k=i:=by omega
      subst this; rw [hcg] at a2; injection a2 with a2; subst a2; exact absurd a3.symm ea,a2,a3⟩⟩⟩:i+1≤s.es.length∧(∀ (k:Nat) (e:En),k<i+1→s.es[k]? = some e→okE s k e)∧(∀ a,(0≤vl a (pt e.age (vl e.age l+1) l)∧vl a (pt e.age (vl e.age l+1) l)≤1)) ∧ ∀ a,vl a (pt e.age (vl e.age l+1) l)=1 ↔ ∃ (k:Nat) (e:En),k<i+1∧s.es[k]? = some e∧e.age=a)⟩
  refine ah (fun h4=>?_) (fun h4=>?_)
  ·have h4:0<i:=by omega
   obtain ⟨f,hfg⟩:∃ c,s.es[i-1]? = some c:=⟨_,List.getElem?_eq_getElem (by omega)⟩
   (refine a8 _ rfl ?_)
   refine ab (v:=.sl x s.es.length (flat en s.es)) rfl ?_
   refine a9 ((i-1:Nat):Int) (by rw [wrap_i64 (by omega) (by omega)]; omega) ?_
   refine aa (by (first | rfl | (simp; done) | (simp; omega))) ?_
   refine ab (v:=sv f.d.name) (by rw [at_ij,addO_eq,Nat.add_zero]; exact flat_cell (j:=0) en_len hfg (by decide)) ?_
   (refine a8 (.pcells (en e)) k5 ?_)
   refine ab (v:=sv e.d.name) rfl ?_
   refine aD (str_geq f.d.name e.d.name) ?_
   by_cases h5:lt f.d.name e.d.name=false
   ·rw [decide_eq_true h5]
    refine Has.intro (Has.intro (Has.intro (no fun h=>?_)))
    have:=((h i e hcg).2.2 (i-1) f (by omega) hfg).2
    rw [h5] at this; cases this
   ·rw [decide_eq_false h5]
    have h5:lt f.d.name e.d.name=true:=by simpa using h5
    refine a9 _ (aq (by omega)) ?_
    refine Has.intro ⟨(i+1,pt e.age (vl e.age l+1) l),(fin ⟨h1,by omega,fun j g hj hg=>⟨hage j g hj hg,?_⟩⟩).2,by dsimp only; omega,⟨rfl,rfl,rfl,rfl,rfl,trivial⟩,_,rfl⟩
    by_cases ej:j=i-1
    ·subst ej; rw [hfg] at hg; injection hg with hg; subst hg; exact h5
    ·exact lt_trans _ _ _ ((hA (i-1) f (by omega) hfg).2.2 j g (by omega) hg).2 h5
  ·have:i=0:=by omega
   subst this
   refine a9 _ (aq (by omega)) ?_
   exact Has.intro ⟨(0+1,pt e.age (vl e.age l+1) l),(fin ⟨h1,by omega,fun j g hj hg=>by omega⟩).2,by dsimp only; omega,⟨rfl,rfl,rfl,rfl,rfl,trivial⟩,_,rfl⟩
 ·have:i=s.es.length:=by omega
  subst this
  refine Has.intro ?_
  (refine a8 _ rfl ?_)
  refine ab (v:=.sl x s.es.length (flat en s.es)) rfl ?_
  refine ah (fun h=>?_) (fun h=>?_)
  ·exact Has.intro (Has.intro (yes fun k e hk=>hA k e (List.getElem?_eq_some_iff.1 hk).1 hk))
  ·omega
end Go.Proofs.YtflfdglnelbbiaaGreat
namespace Go.Proofs.YtflfdglnelbbiaaGreat
open Go Go.VM
def z8:List Int:=[0,0,0,0,0,0,0,0]
def holdP (s:St) (h:Ho):Prop:=0≤findE h.o.pod s.es∧0≤h.o.kind∧h.o.kind≤1∧h.sp≠z8∧(∀ n∈h.sp,0≤n∧n≤1073741824) ∧ ∀ e,s.es[(findE h.o.pod s.es).toNat]? = some e→0≤findI h.o.ctr e.d.l
noncomputable instance (s:St) (h:Ho):Decidable (holdP s h):=Classical.propDecidable _
theorem hoc_len {h:Ho} (h8:h.sp.length=8):(hoc h).length=11:=by simp [hoc,ow,h8]
theorem sp_eq {l m:List Int} (hl:l.length=8) (hm:m.length=8):aggEq [.i,.i,.i,.i,.i,.i,.i,.i] (l.map (PV.int .i64)) (m.map (PV.int .i64))=some (decide (l=m)):=by
 match l,hl,m,hm with
 | [a0,a1,a2,a3,a4,a5,a6,a7],_,[b0,b1,b2,b3,b4,b5,b6,b7],_=>
   show some _=some _
   congr 1
   rw [Bool.eq_iff_iff]
   simp
theorem findEF_range {name:List UInt8}:∀ (l:List En) (i:Nat),findEF name i l = -1∨((i:Int)≤findEF name i l∧findEF name i l<(i:Int)+l.length)
 | [],i=>.inl rfl
 | e::l,i=>by
   unfold findEF
   split
   ·exact .inr ⟨by omega,by simp; omega⟩
   ·rcases findEF_range l (i+1) with h | ⟨h1,h2⟩
    ·exact .inl h
    ·exact .inr ⟨by omega,by simp; omega⟩
theorem findE_get {name:List UInt8} {l:List En} (h:0≤findE name l):∃ (k:Nat) (e:En),findE name l=(k:Int)∧l[k]? = some e∧k<l.length:=by
 rcases findEF_range (name:=name) l 0 with h1 | ⟨h1,h2⟩
 ·have:findE name l = -1:=h1
  omega
 ·have e:findE name l=findEF name 0 l:=rfl
  rw [←e] at h1 h2
  refine ⟨(findE name l).toNat,l[(findE name l).toNat]'(by omega),by omega,List.getElem?_eq_getElem _,by omega⟩
set_option maxHeartbeats 2000000 in
theorem hold_ok (s:St) (x y:Ext) (hs:smallS s) (h:Ho) (h8:h.sp.length=8):EP (EE env) 88 [.agg (stc s x y),.agg (hoc h)]=some (.bool (decide (holdP s h))):=by
 obtain ⟨hl,_,hE,_⟩:=hs
 have hl':=hl
 rw [aS] at hl'
 refine Has.eq (aE ?_)
 refine a8 (.pcells (stc s x y)) rfl ?_
 refine ae (v:=stc s x y) rfl (of_decide_eq_true rfl) ?_
 (refine a8 (.pcells (hoc h)) rfl ?_)
 refine ab (v:=sv h.o.pod) rfl ?_
 refine aj (findE_ok s x y hl h.o.pod) ?_
 by_cases q1:0≤findE h.o.pod s.es
 rotate_left
 ·rw [show foundB (findE h.o.pod s.es) = .tup [.int .i64 0,.bool false] from by unfold foundB; rw [if_pos (by omega),decide_eq_false (by omega)]]
  exact Has.intro (Has.intro (no fun h=>q1 h.1))
 obtain ⟨k,e,hk,hg,hkl⟩:=findE_get q1
 have hmem:e∈s.es:=List.mem_of_getElem? hg
 rw [show foundB (findE h.o.pod s.es) = .tup [.int .i64 (k:Int),.bool true] from by unfold foundB; rw [if_neg (by omega),decide_eq_true (by omega),hk]]
 (refine a8 (.pcells (hoc h)) rfl ?_)
 refine ab (v:=.int .i64 h.o.kind) rfl ?_
 refine ah (fun q2=>?_) (fun q2=>?_)
 ·exact Has.intro (Has.intro (no fun h=>by have:=h.2.1; omega))
 (refine a8 (.pcells (hoc h)) rfl ?_)
 refine ab (v:=.int .i64 h.o.kind) rfl ?_
 refine ah (fun q3=>?_) (fun q3=>?_)
 ·exact Has.intro (Has.intro (no fun h=>by have:=h.2.2.1; omega))
 (refine a8 (.pcells (hoc h)) rfl ?_)
 have hsp:((hoc h).drop 3).take 8=h.sp.map (PV.int .i64):=by
  show (h.sp.map (PV.int .i64)).take 8=_
  rw [List.take_of_length_le (by simp [h8])]
 have hlen:3+8≤(hoc h).length:=by rw [hoc_len h8]; decide
 refine ae hsp hlen ?_
 refine bj (sp_eq (m:=z8) h8 rfl) ?_
 refine ah (fun q4=>?_) (fun q4=>?_)
 ·exact Has.intro (Has.intro (no fun h=>h.2.2.2.1 q4))
 (refine a8 (.pcells (hoc h)) rfl ?_)
 refine ae hsp hlen ?_
 refine aw ?_
 refine aC (σ:=Nat) (fun i=>8-i) (fun i=>[(2,.ptr 0 0),(3,.ptr 1 0),(5,.pv (.int .i64 k)),(40,.pv (.agg (h.sp.map (PV.int .i64)))),(41,.pv (.int .i64 i))]) (fun _=>[.pcells (stc s x y),.pcells (hoc h)])
  (fun i=>i≤8 ∧ ∀ (j:Nat) (n:Int),j<i→h.sp[j]? = some n→0≤n∧n≤1073741824) (fun i ⟨hi,hA⟩ r=>?_) 0 ⟨by decide,fun j n h=>by omega⟩ ⟨rfl,rfl,rfl,rfl,rfl,trivial⟩ rfl
 refine ah (fun hc=>?_) (fun hc=>?_)
 ·have hlt:i<h.sp.length:=by omega
  obtain ⟨n,hng⟩:∃ c,h.sp[i]? = some c:=⟨_,List.getElem?_eq_getElem hlt⟩
  have hnm:n∈h.sp:=List.mem_of_getElem? hng
  refine aa (by (first | rfl | (simp; done) | (simp; omega))) ?_
  refine ab (v:=.int .i64 n) (by rw [List.getElem?_map,show ((i:Nat):Int).toNat=i from rfl,hng]; rfl) ?_
  refine ah (fun q5=>?_) (fun q5=>?_)
  ·exact Has.intro (Has.intro (Has.intro (no fun h=>by have:=(h.2.2.2.2.1 n hnm).1; omega)))
  refine ah (fun q6=>?_) (fun q6=>?_)
  ·exact Has.intro (Has.intro (Has.intro (no fun h=>by have:=(h.2.2.2.2.1 n hnm).2; omega)))
  refine a9 _ (aq (by omega)) ?_
  refine Has.intro ⟨i+1,⟨by omega,fun j m hj hm=>?_⟩,by omega,⟨rfl,rfl,rfl,rfl,rfl,trivial⟩,rfl⟩
  by_cases ej:j=i
  ·subst ej; rw [hng] at hm; injection hm with hm; subst hm; omega
  ·exact hA j m (by omega) hm
 ·have:i=8:=by omega
  subst this
  refine Has.intro ?_
  (refine a8 _ rfl ?_)
  refine ab (v:=.sl x s.es.length (flat en s.es)) rfl ?_
  refine aa (by (first | rfl | (simp; done) | (simp; omega))) ?_
  obtain ⟨p1,p2⟩:=flat_part en_len hg (j:=0) (n:=4) (by decide)
  refine ae (v:=pdc e.d e.dx) (by rw [at_ij]; exact p1) (by rw [at_ij]; exact p2) ?_
  (refine a8 (.pcells (hoc h)) rfl ?_)
  refine ab (v:=sv h.o.ctr) rfl ?_
  refine am ((find_ok _ e.d (hE e hmem).1.2.1 h.o.ctr _ (.inl ⟨e.dx,rfl⟩)).mono fun z hz=>?_)
  obtain ⟨v,H'⟩:=z
  obtain ⟨rfl,J,rfl⟩:=hz
  refine Has.intro (Has.intro (congrArg PV.bool ?_))
  show decide (findI h.o.ctr e.d.l≥0)=_
  rw [decide_eq_decide]
  refine ⟨fun q=>⟨q1,by omega,by omega,q4,fun n hn=>?_,fun f hf=>?_⟩,fun q=>q.2.2.2.2.2 e (by rw [hk]; exact hg)⟩
  ·obtain ⟨j,hj⟩:=List.getElem?_of_mem hn
   exact hA j n (by have:=(List.getElem?_eq_some_iff.1 hj).1; omega) hj
  ·rw [hk] at hf
   have hf:s.es[k]? = some f:=hf
   rw [hg] at hf; injection hf with hf; subst hf; exact q
end Go.Proofs.YtflfdglnelbbiaaGreat
