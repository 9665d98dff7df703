/-
  Part 2 of the functions and the law.
  What the program's functions on sums of bytes compute.
  The sum of rows that are laid over one another is that of their sums; and turned bytes turn it.
  The document's sum: a register of bits.
  CrcSums, in the abstract machine.
  Numbers in bytes.
  Rows, joined; clones.
  Frames.
  Clones, and torn slots.
  What a slot has.
  What a slot has: the document's; which slot counts; whether a torn one has met.
  What a frame's bytes have.
-/
import Derived.Test.YtflfdglnelbbiaaGreatP1
import Derived.Test.YtflfdglnelbbiaaGreatV9
set_option linter.all false
set_option linter.unusedVariables false
set_option linter.unusedSimpArgs false
set_option linter.unusedSectionVars false
namespace Go.Proofs.YtflfdglnelbbiaaGreat.W
open Go Go.VM
def u32 (r:BitVec 32):PV:=.int .u32 r.toNat
def bit (r:BitVec 32):BitVec 32:=(r >>> 1) ^^^ (0xedb88320#32 &&& -(r &&& 1#32))
def bits:Nat→BitVec 32→BitVec 32
 | 0,r=>r
 | n+1,r=>bit (bits n r)
def byte (r:BitVec 32) (b:UInt8):BitVec 32:=bits 8 (r ^^^ BitVec.ofNat 32 b.toNat)
def sum (r:BitVec 32) (bs:List UInt8):BitVec 32:=bs.foldl byte r
def row (p:Ext × List UInt8):PV:=.sl p.1 p.2.length (bc p.2)
theorem new_ok (H:Heap):EE env (.fn 92) [] H=some (.ptr H.length 0,H++[.pcells [u32 0xffffffff#32]]):=EE_intro rfl
theorem add_ok (H:Heap) (id:Nat) (r:BitVec 32) (h:hget H id = .pcells [u32 r]) (x:Ext) (n:Nat) (rows:List (Ext × List UInt8)) (hn:rows.length=n) (hmax:n≤maxLen) (hlen:∀ p∈rows,p.2.length≤maxLen) :
 EE env (.fn 93) [.ptr id 0,.pv (.sl x n (rows.map row))] H=some (.pv (.tup []),hset H id (.pcells [u32 (sum r (rows.map (·.2)).flatten)])):=by
 subst hn
 rw [aS] at hmax
 have hid:id<H.length:=lt_of_hget (by rw [h]; exact fun e=>by cases e)
 refine Has.eq (aK ?_)
 refine aw ?_
 refine bD rows.length (fun i=>[(0,.ptr id 0),(10,.pv (.sl x rows.length (rows.map row))),(11,.pv (.int .i64 rows.length)),(12,.pv (.int .i64 i))])
  (fun i=>hset H id (.pcells [u32 (sum r ((rows.take i).map (·.2)).flatten)])) (fun i hi r1=>?_) (fun r1=>?_) ⟨rfl,rfl,rfl,rfl,trivial⟩ (hset_self h).symm
 ·refine aU (decide_eq_true (by omega)) ?_
  refine aa (by simp [hi]) ?_
  obtain ⟨p,hp⟩:∃ p,rows[i]? = some p:=⟨rows[i],List.getElem?_eq_getElem hi⟩
  refine ab (show (rows.map row)[i]? = some (row p) by simp [hp]) ?_
  refine aw ?_
  refine bD p.2.length (fun j=>[(0,.ptr id 0),(10,.pv (.sl x rows.length (rows.map row))),(11,.pv (.int .i64 rows.length)),(12,.pv (.int .i64 i)),(16,.pv (row p)),(17,.pv (.int .i64 p.2.length)),(18,.pv (.int .i64 j))])
   (fun j=>hset H id (.pcells [u32 (sum (sum r ((rows.take i).map (·.2)).flatten) (p.2.take j))])) (fun j hj r2=>?_) (fun r2=>?_) ⟨rfl,rfl,rfl,rfl,rfl,rfl,rfl,trivial⟩ rfl
  ·refine aU (decide_eq_true (by omega)) ?_
   refine aa (by simp [hj]) ?_
   obtain ⟨b,hb⟩:∃ b,p.2[j]? = some b:=⟨p.2[j],List.getElem?_eq_getElem hj⟩
   refine ab (bc_get hb) ?_
   refine hgetK_hset hid ?_
   refine ab rfl ?_
   refine a9 _ (show _=((BitVec.ofNat 32 b.toNat).toNat:Int) from ?_) ?_
   ·exact wrap_u8 b
   refine a9 _ (u32_xor _ _) ?_
   refine hgetK_hset hid ?_
   refine aa rfl ?_
   refine ao ?_
   refine aw ?_
   refine bD 8 (fun k=>[(0,.ptr id 0),(10,.pv (.sl x rows.length (rows.map row))),(11,.pv (.int .i64 rows.length)),(12,.pv (.int .i64 i)),(16,.pv (row p)),(17,.pv (.int .i64 p.2.length)),(18,.pv (.int .i64 j)),(31,.pv (.int .i64 k))])
    (fun k=>hset H id (.pcells [u32 (bits k (sum (sum r ((rows.take i).map (·.2)).flatten) (p.2.take j) ^^^ BitVec.ofNat 32 b.toNat))])) (fun k hk r3=>?_) (fun r3=>?_) ⟨rfl,rfl,rfl,rfl,rfl,rfl,rfl,rfl,trivial⟩ (hset_hset _ _ _ _)
   ·refine aU (decide_eq_true (by omega)) ?_
    refine hgetK_hset hid ?_
    refine ab rfl ?_
    refine aa rfl ?_
    refine a9 _ (u32_shr1 _) ?_
    refine hgetK_hset hid ?_
    refine ab rfl ?_
    refine a9 _ (u32_and _ 1#32) ?_
    refine a9 _ (u32_neg _) ?_
    refine a9 _ (u32_and 3988292384#32 _) ?_
    refine a9 _ (u32_xor _ _) ?_
    refine hgetK_hset hid ?_
    refine aa rfl ?_
    refine ao ?_
    refine a9 _ (aq (by omega)) ?_
    exact Has.intro ⟨⟨rfl,rfl,rfl,rfl,rfl,rfl,rfl,rfl,trivial⟩,hset_hset _ _ _ _⟩
   ·refine aQ (decide_eq_false (by omega)) ?_
    refine Has.intro ?_
    refine a9 _ (aq (by have:=hlen p (List.mem_of_getElem? hp); rw [aS] at this; omega)) ?_
    refine Has.intro ⟨⟨rfl,rfl,rfl,rfl,rfl,rfl,rfl,trivial⟩,?_⟩
    show hset H id (.pcells [u32 (byte _ b)])=_
    unfold sum; rw [take_foldl hb]
  ·refine aQ (decide_eq_false (by omega)) ?_
   refine Has.intro ?_
   refine a9 _ (aq (by omega)) ?_
   refine Has.intro ⟨⟨rfl,rfl,rfl,rfl,trivial⟩,?_⟩
   show hset H id (.pcells [u32 (sum _ (p.2.take p.2.length))])=_
   rw [List.take_length,List.take_add_one,hp]
   simp [sum]
 ·refine aQ (decide_eq_false (by omega)) ?_
  refine Has.intro ?_
  refine Has.intro ?_
  show (_,hset H id (.pcells [u32 (sum r ((rows.take rows.length).map (·.2)).flatten)]))=_
  rw [List.take_length]; rfl
theorem u32_not (r:BitVec 32):IntKind.u32.wrap ((BitVec.ofInt IntKind.u32.bits (if IntKind.u32.signed then -1 else IntKind.u32.max) ^^^ BitVec.ofInt IntKind.u32.bits (r.toNat:Int)).toNat:Int)=((~~~r).toNat:Int):=by
 show IntKind.u32.wrap ((BitVec.allOnes 32 ^^^ BitVec.ofInt 32 (r.toNat:Int)).toNat:Int)=_
 rw [ofInt_toNat,BitVec.allOnes_xor,wrap_u32 (~~~r).isLt]
theorem value_ok (H:Heap) (id:Nat) (r:BitVec 32) (h:hget H id = .pcells [u32 r]):EE env (.fn 94) [.ptr id 0] H=some (.pv (u32 (~~~r)),H):=by
 refine Has.eq (aK ?_)
 refine a8 _ h ?_
 refine ab rfl ?_
 refine a9 _ (u32_not r) ?_
 exact Has.intro rfl
def crc (bs:List UInt8):BitVec 32 := ~~~(sum 0xffffffff#32 bs)
theorem of_ok (x:Ext) (n:Nat) (rows:List (Ext × List UInt8)) (hn:rows.length=n) (hmax:n≤maxLen) (hlen:∀ p∈rows,p.2.length≤maxLen) :
 EP (EE env) 76 [.sl x n (rows.map row)]=some (u32 (crc (rows.map (·.2)).flatten)):=by
 refine Has.eq (aE ?_)
 refine au (new_ok []) ?_
 refine au (add_ok _ 0 _ rfl x n rows hn hmax hlen) ?_
 refine au (value_ok _ 0 _ rfl) ?_
 exact Has.intro (Has.intro rfl)
theorem of1 (y x:Ext) (bs:List UInt8) (h:bs.length≤maxLen):EP (EE env) 76 [.sl y 1 [.sl x bs.length (bc bs)]]=some (u32 (crc bs)):=by
 have:=of_ok y 1 [(x,bs)] rfl (by decide) (by simpa using h)
 simpa [row] using this
def four (r:BitVec 32):List PV:=[.int .u8 ((r.toNat / 16777216 % 256:Nat):Int),.int .u8 ((r.toNat / 65536 % 256:Nat):Int),.int .u8 ((r.toNat / 256 % 256:Nat):Int),.int .u8 ((r.toNat % 256:Nat):Int)]
theorem wrap_u8_mod (n:Nat):IntKind.u8.wrap (n:Int)=((n % 256:Nat):Int):=by
 unfold IntKind.wrap; simp only [IntKind.bits,IntKind.signed,Bool.false_and]
 simp
theorem shr_nat (n k:Nat) (hk:k≤32):(n:Int).fdiv (2 ^ (min ((k:Int)).toNat IntKind.u32.bits))=((n / 2 ^ k:Nat):Int):=by
 rw [Int.fdiv_eq_ediv_of_nonneg _ (by exact Int.le_of_lt (Int.pow_pos (by decide)))]
 have:min ((k:Int)).toNat IntKind.u32.bits=k:=by simp [IntKind.bits]; omega
 rw [this]
 simp
theorem bytes_ok (r:BitVec 32):EP (EE env) 75 [u32 r]=some (.agg (four r)):=by
 refine Has.eq (aE ?_)
 refine aa rfl ?_
 refine a9 _ (shr_nat r.toNat 24 (by decide)) ?_
 refine a9 _ (wrap_u8_mod _) ?_
 refine aa rfl ?_
 refine a9 _ (shr_nat r.toNat 16 (by decide)) ?_
 refine a9 _ (wrap_u8_mod _) ?_
 refine aa rfl ?_
 refine a9 _ (shr_nat r.toNat 8 (by decide)) ?_
 refine a9 _ (wrap_u8_mod _) ?_
 refine a9 _ (wrap_u8_mod _) ?_
 refine a8 _ rfl ?_
 refine aa rfl ?_
 refine ao ?_
 refine a8 _ rfl ?_
 refine ae rfl (Nat.le_refl 4) ?_
 exact Has.intro (Has.intro rfl)
def valStep (r:BitVec 32) (b:UInt8):BitVec 32:=(r <<< 8) ||| BitVec.ofNat 32 b.toNat
def val (bs:List UInt8):BitVec 32:=bs.foldl valStep 0#32
theorem u32_shl8 (r:BitVec 32):IntKind.u32.wrap ((r.toNat:Int)*2 ^ (min (8:Int).toNat IntKind.u32.bits))=((r <<< 8).toNat:Int):=by
 rw [BitVec.toNat_shiftLeft,Nat.shiftLeft_eq]
 unfold IntKind.wrap; simp only [IntKind.bits,IntKind.signed,Bool.false_and]
 simp
theorem u32_or (a b:BitVec 32):IntKind.u32.wrap ((BitVec.ofInt IntKind.u32.bits (a.toNat:Int) ||| BitVec.ofInt IntKind.u32.bits (b.toNat:Int)).toNat:Int)=((a ||| b).toNat:Int):=by
 show IntKind.u32.wrap ((BitVec.ofInt 32 (a.toNat:Int) ||| BitVec.ofInt 32 (b.toNat:Int)).toNat:Int)=_
 rw [ofInt_toNat,ofInt_toNat,wrap_u32 (a ||| b).isLt]
theorem val_ok (bs:List UInt8) (h4:bs.length=4):EP (EE env) 86 [.agg (bc bs)]=some (u32 (val bs)):=by
 refine Has.eq (aE ?_)
 refine a8 _ rfl ?_
 refine ae (v:=bc bs) (List.take_of_length_le (by simp [bc,h4])) (by simp [bc,h4]) ?_
 refine aw ?_
 refine bD 4 (fun i=>[(6,.pv (.agg (bc bs))),(3,.pv (u32 ((bs.take i).foldl valStep 0#32))),(7,.pv (.int .i64 i))]) (fun _=>[.pcells (bc bs)]) (fun i hi r=>?_) (fun r=>?_) ⟨rfl,rfl,rfl,trivial⟩ rfl
 ·refine aU (decide_eq_true (by omega)) ?_
  refine aa (by simp; omega) ?_
  obtain ⟨b,hb⟩:∃ b,bs[i]? = some b:=⟨bs[i],List.getElem?_eq_getElem (by omega)⟩
  refine ab (bc_get hb) ?_
  refine aa rfl ?_
  refine a9 _ (u32_shl8 _) ?_
  refine a9 _ (wrap_u8 b) ?_
  refine a9 _ (u32_or _ _) ?_
  refine a9 _ (aq (by omega)) ?_
  exact Has.intro ⟨⟨rfl,by rw [take_foldl hb]; rfl,rfl,trivial⟩,rfl⟩
 ·refine aQ (decide_eq_false (by omega)) ?_
  refine Has.intro ?_
  refine Has.intro (Has.intro ?_)
  show u32 ((bs.take 4).foldl valStep 0#32)=_
  rw [List.take_of_length_le (by omega)]; rfl
end Go.Proofs.YtflfdglnelbbiaaGreat.W
namespace Go.Proofs.YtflfdglnelbbiaaGreat.W
open Go Go.VM
theorem mask_eq (x:BitVec 32):(0xedb88320#32 &&& -(x &&& 1#32))=if x.getLsbD 0 then 0xedb88320#32 else 0#32:=by
 have h:x &&& 1#32=if x.getLsbD 0 then 1#32 else 0#32:=by
  ext i hi
  rw [BitVec.getElem_and]
  by_cases h0:i=0
  ·subst h0; cases hx:x.getLsbD 0<;>simp_all [BitVec.getLsbD_eq_getElem]
  ·have:(1#32)[i]=false:=by
    rw [←BitVec.getLsbD_eq_getElem,BitVec.getLsbD_one]; simp [h0]
   rw [this]; split<;>simp [this]
 rw [h]
 split<;>rfl
theorem byte_toNat (x:UInt8):(BitVec.ofNat 32 x.toNat).toNat=x.toNat:=by
 have:=x.toNat_lt
 rw [BitVec.toNat_ofNat,Nat.mod_eq_of_lt (by omega)]
end Go.Proofs.YtflfdglnelbbiaaGreat.W
namespace Go.Proofs.YtflfdglnelbbiaaGreat.W
open Go Go.VM
def bcells (f:Nat→Bool):List PV:=(List.range 32).map fun j=>.bool (f j)
theorem bcells_len (f:Nat→Bool):(bcells f).length=32:=by simp [bcells]
theorem bcells_get (f:Nat→Bool) {i:Nat} (h:i<32):(bcells f)[i]? = some (.bool (f i)):=by simp [bcells,h]
theorem bcells_congr {f g:Nat→Bool} (h:∀ j,j<32→f j=g j):bcells f=bcells g:=by
 unfold bcells
 apply List.map_congr_left
 intro j hj
 rw [h j (List.mem_range.1 hj)]
theorem bcells_set (f:Nat→Bool) (i:Nat) (b:Bool):(bcells f).set i (.bool b)=bcells (fun j=>if j=i then b else f j):=by
 apply List.ext_getElem?
 intro j
 rw [List.getElem?_set]
 rcases Nat.lt_or_ge j 32 with h | h
 ·rw [bcells_get _ h]
  by_cases he:i=j
  ·subst he; rw [if_pos rfl,if_pos (by rw [bcells_len]; exact h),bcells_get _ h,if_pos rfl]
  ·rw [if_neg he,bcells_get _ h,if_neg (fun e=>he e.symm)]
 ·rw [List.getElem?_eq_none (by rw [bcells_len]; exact h)]
  split
  ·rw [List.getElem?_eq_none (by rw [bcells_len]; exact h)]
   split
   ·rename_i h1 h2; rw [bcells_len] at h2; omega
   ·rfl
  ·rw [List.getElem?_eq_none (by rw [bcells_len]; exact h)]
def ser (r:BitVec 32) (b k:Nat):BitVec 32:=bits k (r ^^^ BitVec.ofNat 32 b) ^^^ (BitVec.ofNat 32 b >>> k)
theorem bit_eq (x:BitVec 32):bit x=(x >>> 1) ^^^ (if x.getLsbD 0 then 0xedb88320#32 else 0#32):=by unfold bit; rw [mask_eq]
theorem ser_low (r:BitVec 32) (b k:Nat) (hb:b<256) (hk:k<8):(!((ser r b k).getLsbD 0==(b / 2 ^ k % 2==1)))=(bits k (r ^^^ BitVec.ofNat 32 b)).getLsbD 0:=by
 unfold ser
 rw [BitVec.getLsbD_xor,BitVec.getLsbD_ushiftRight,Nat.add_zero]
 have:(BitVec.ofNat 32 b).getLsbD k=(b / 2 ^ k % 2==1):=by
  rw [BitVec.getLsbD_ofNat]
  have:decide (k<32)=true:=decide_eq_true (by omega)
  rw [this,Bool.true_and,Nat.testBit_eq_decide_div_mod_eq]
  rw [Bool.eq_iff_iff]; simp
 rw [this]
 cases (bits k (r ^^^ BitVec.ofNat 32 b)).getLsbD 0<;>cases (b / 2 ^ k % 2==1)<;>rfl
theorem ser_step (r:BitVec 32) (b k:Nat):ser r b (k+1)=(ser r b k >>> 1) ^^^ (if (bits k (r ^^^ BitVec.ofNat 32 b)).getLsbD 0 then 0xedb88320#32 else 0#32):=by
 unfold ser
 show bit _ ^^^ _=_
 rw [bit_eq,BitVec.ushiftRight_xor_distrib,←BitVec.shiftRight_add]
 rw [BitVec.xor_assoc,BitVec.xor_assoc]
 congr 1
 exact BitVec.xor_comm _ _
theorem ser_end (r:BitVec 32) (b:UInt8):ser r b.toNat 8=byte r b:=by
 unfold ser byte
 have:BitVec.ofNat 32 b.toNat >>> 8=0#32:=by
  apply BitVec.eq_of_toNat_eq
  rw [BitVec.toNat_ushiftRight,byte_toNat,Nat.shiftRight_eq_div_pow]
  have:=b.toNat_lt
  have:b.toNat / 2 ^ 8=0:=Nat.div_eq_of_lt (by omega)
  rw [this]; rfl
 rw [this,BitVec.xor_zero]
theorem ser_start (r:BitVec 32) (b:Nat):ser r b 0=r:=by
 unfold ser
 show (r ^^^ BitVec.ofNat 32 b) ^^^ (BitVec.ofNat 32 b >>> 0)=r
 rw [BitVec.ushiftRight_zero,BitVec.xor_assoc]; simp
def over (j:Nat):Bool:=(0xedb88320#32:BitVec 32).getLsbD j
theorem over_eq:∀ j,j<32→(3988292384 / 2 ^ j % 2==1)=over j:=by decide
theorem tmod_nat (a:Nat):(a:Int).tmod 2=((a % 2:Nat):Int):=rfl
theorem u32_half (a:Nat) (h:a<4294967296):IntKind.u32.wrap ((a:Int).tdiv 2)=((a / 2:Nat):Int):=by
 show IntKind.u32.wrap ((a / 2:Nat):Int)=_
 exact wrap_u32 (by omega)
theorem u8_half (a:Nat) (h:a<256):IntKind.u8.wrap ((a:Int).tdiv 2)=((a / 2:Nat):Int):=by
 show IntKind.u8.wrap ((a / 2:Nat):Int)=_
 rw [wrap_u8_mod,Nat.mod_eq_of_lt (by omega)]
theorem odd_eq (a:Nat):(((a % 2:Nat):Int)==1)=(a % 2==1):=by
 rw [Bool.eq_iff_iff]; simp; omega
theorem bits_num (x:BitVec 32) (m:Nat) (hm:m<32):x.toNat / 2 ^ (32-(m+1))=2*(x.toNat / 2 ^ (32-m))+(if x.getLsbD (31-m) then 1 else 0):=by
 have e:32-m=(32-(m+1))+1:=by omega
 rw [e,Nat.pow_succ,←Nat.div_div_eq_div_mul]
 have:x.getLsbD (31-m)=decide (x.toNat / 2 ^ (32-(m+1)) % 2=1):=by
  show x.toNat.testBit (31-m)=_
  rw [Nat.testBit_eq_decide_div_mod_eq]
  rw [show 31-m=32-(m+1) by omega]
 rw [this]
 generalize x.toNat / 2 ^ (32-(m+1))=y
 by_cases h:y % 2=1
 ·rw [if_pos (by simpa using h)]; omega
 ·rw [if_neg (by simpa using h)]; omega
theorem refOf_ok (s:ByteArray) (hs:s.size≤9223372036854775807):EP (EE env) 49 [.str s]=some (u32 (crc s.data.toList)):=by
 refine Has.eq (aE ?_)
 refine a8 _ rfl ?_
 refine aa rfl ?_
 refine a9 (bcells (fun j=>decide (j<0))) rfl ?_
 refine aw ?_
 refine bD 32 (fun i=>[(0,.pv (.str s)),(3,.ptr 0 0),(4,.pv (.int .i64 i))]) (fun i=>[.pcells (bcells (fun j=>decide (j<i)))]) (fun i hi r=>?_) (fun r=>?_) ⟨rfl,rfl,rfl,trivial⟩ rfl
 ·refine aU (decide_eq_true (by omega)) ?_
  refine aa (by simp; omega) ?_
  refine a8 _ rfl ?_
  refine aa (by
   show Nat.blt i (bcells _).length=true
   rw [bcells_len]; exact Nat.ble_eq_true_of_le hi) ?_
  refine a9 (bcells (fun j=>decide (j<i+1))) (by
   show (bcells _).set i _=_
   rw [bcells_set]
   exact bcells_congr fun j _=>by by_cases h:j=i<;>simp [h]<;>omega) ?_
  refine a9 _ (aq (by omega)) ?_
  exact Has.intro ⟨⟨rfl,rfl,rfl,trivial⟩,rfl⟩
 refine aQ (decide_eq_false (by omega)) ?_
 refine Has.intro ?_
 refine a8 _ rfl ?_
 refine aa rfl ?_
 refine a9 (bcells (fun j=>decide (j<0)&&(3988292384 / 2 ^ j % 2==1))) rfl ?_
 refine aw ?_
 refine bD 32 (fun i=>[(0,.pv (.str s)),(3,.ptr 0 0),(5,.ptr 1 0),(6,.pv (.int .u32 ((3988292384 / 2 ^ i:Nat):Int))),(7,.pv (.int .i64 i))])
  (fun i=>[.pcells (bcells (fun j=>decide (j<32))),.pcells (bcells (fun j=>decide (j<i)&&(3988292384 / 2 ^ j % 2==1)))]) (fun i hi r2=>?_) (fun r2=>?_) ⟨rfl,rfl,rfl,rfl,rfl,trivial⟩ rfl
 ·refine aU (decide_eq_true (by omega)) ?_
  refine aa rfl ?_
  refine a9 _ (tmod_nat _) ?_
  refine aD (odd_eq _) ?_
  refine aa (by simp; omega) ?_
  refine a8 _ rfl ?_
  refine aa (by
   show Nat.blt i (bcells _).length=true
   rw [bcells_len]; exact Nat.ble_eq_true_of_le hi) ?_
  refine a9 (bcells (fun j=>decide (j<i+1)&&(3988292384 / 2 ^ j % 2==1))) (by
   show (bcells _).set i _=_
   rw [bcells_set]
   refine bcells_congr fun j _=>?_
   by_cases h:j=i
   ·subst h; rw [if_pos rfl]; simp
   ·rw [if_neg h]; congr 1; rw [Bool.eq_iff_iff]; simp; omega) ?_
  have hp:3988292384 / 2 ^ i<4294967296:=Nat.lt_of_le_of_lt (Nat.div_le_self _ _) (by decide)
  refine aa rfl ?_
  refine a9 _ (u32_half _ hp) ?_
  refine a9 _ (aq (by omega)) ?_
  refine Has.intro ⟨⟨rfl,rfl,rfl,?_,rfl,trivial⟩,rfl⟩
  show AV.pv (.int .u32 ((3988292384 / 2 ^ i / 2:Nat):Int))=_
  rw [Nat.div_div_eq_div_mul,←Nat.pow_succ]
 refine aQ (decide_eq_false (by omega)) ?_
 refine Has.intro ?_
 refine aw ?_
 refine bD s.size (fun i=>[(0,.pv (.str s)),(3,.ptr 0 0),(5,.ptr 1 0),(8,.pv (.int .i64 i))])
  (fun i=>[.pcells (bcells (sum 0xffffffff#32 (s.data.toList.take i)).getLsbD),.pcells (bcells over)]) (fun i hi r3=>?_) (fun r3=>?_) ⟨rfl,rfl,rfl,rfl,trivial⟩ ?_
 ·refine aU (decide_eq_true (by omega)) ?_
  refine aa (by simp; omega) ?_
  have hsz:s.data.toList.length=s.size:=Array.length_toList
  obtain ⟨b,hb⟩:∃ b,s.data.toList[i]? = some b:=⟨s.data.toList[i],List.getElem?_eq_getElem (by omega)⟩
  refine ab hb ?_
  generalize hR:sum 0xffffffff#32 (s.data.toList.take i)=R
  have hbl:=b.toNat_lt
  refine aw ?_
  refine bD 8 (fun k=>[(0,.pv (.str s)),(3,.ptr 0 0),(5,.ptr 1 0),(8,.pv (.int .i64 i)),(9,.pv (.int .u8 ((b.toNat / 2 ^ k:Nat):Int))),(10,.pv (.int .i64 k))])
   (fun k=>[.pcells (bcells (ser R b.toNat k).getLsbD),.pcells (bcells over)]) (fun k hk r4=>?_) (fun r4=>?_) ⟨rfl,rfl,rfl,rfl,?_,rfl,trivial⟩ (by rw [ser_start])
  ·refine aU (decide_eq_true (by omega)) ?_
   refine aa rfl ?_
   refine a8 _ rfl ?_
   refine ab (bcells_get _ (by decide:0<32)) ?_
   refine aa rfl ?_
   refine a9 _ (tmod_nat _) ?_
   refine aD (odd_eq _) ?_
   refine aD (ser_low R b.toNat k hbl hk) ?_
   generalize hlow:(bits k (R ^^^ BitVec.ofNat 32 b.toNat)).getLsbD 0=low
   refine aa rfl ?_
   have hbk:b.toNat / 2 ^ k<256:=Nat.lt_of_le_of_lt (Nat.div_le_self _ _) hbl
   refine a9 _ (u8_half _ hbk) ?_
   refine aw ?_
   generalize hA:(ser R b.toNat k)=A
   refine bD 31 (fun n=>[(0,.pv (.str s)),(3,.ptr 0 0),(5,.ptr 1 0),(8,.pv (.int .i64 i)),(9,.pv (.int .u8 ((b.toNat / 2 ^ k / 2:Nat):Int))),(10,.pv (.int .i64 k)),(11,.pv (.bool low)),(12,.pv (.int .i64 n))])
    (fun n=>[.pcells (bcells (fun j=>if j<n then A.getLsbD (j+1) else A.getLsbD j)),.pcells (bcells over)]) (fun n hn r5=>?_) (fun r5=>?_) ⟨rfl,rfl,rfl,rfl,rfl,rfl,rfl,rfl,trivial⟩ ?_
   ·refine aU (decide_eq_true (by omega)) ?_
    refine a9 _ (aq (by omega)) ?_
    refine aa (by simp; omega) ?_
    refine a8 _ rfl ?_
    refine ab (bcells_get _ (by show n+1<32; omega)) ?_
    refine aa (by simp; omega) ?_
    refine a8 _ rfl ?_
    refine aa (by
     show Nat.blt n (bcells _).length=true
     rw [bcells_len]; exact Nat.ble_eq_true_of_le (by omega)) ?_
    refine a9 (bcells (fun j=>if j<n+1 then A.getLsbD (j+1) else A.getLsbD j)) (by
     show (bcells _).set n (.bool (if n+1<n then A.getLsbD (n+1+1) else A.getLsbD (n+1)))=_
     rw [if_neg (by omega),bcells_set]
     refine bcells_congr fun j _=>?_
     by_cases h:j=n
     ·subst h; rw [if_pos rfl,if_pos (by omega)]
     ·rw [if_neg h]
      by_cases h2:j<n
      ·rw [if_pos h2,if_pos (by omega)]
      ·rw [if_neg h2,if_neg (by omega)]) ?_
    refine a9 _ (aq (by omega)) ?_
    exact Has.intro ⟨⟨rfl,rfl,rfl,rfl,rfl,rfl,rfl,rfl,trivial⟩,rfl⟩
   ·refine aQ (decide_eq_false (by omega)) ?_
    refine Has.intro ?_
    refine aa rfl ?_
    refine a8 _ rfl ?_
    refine aa (by
     show Nat.blt 31 (bcells _).length=true
     rw [bcells_len]; rfl) ?_
    refine a9 (bcells (fun j=>if j<0 then ((A >>> 1).getLsbD j != (low&&over j)) else (A >>> 1).getLsbD j)) (by
     show (bcells _).set 31 (.bool false)=_
     rw [bcells_set]
     refine bcells_congr fun j hj=>?_
     rw [if_neg (by omega:¬ j<0),BitVec.getLsbD_ushiftRight,Nat.add_comm 1 j]
     by_cases h:j=31
     ·subst h; rw [if_pos rfl,BitVec.getLsbD_of_ge _ _ (by decide)]
     ·rw [if_neg h,if_pos (by omega)]) ?_
    refine aw ?_
    refine bD 32 (fun n=>[(0,.pv (.str s)),(3,.ptr 0 0),(5,.ptr 1 0),(8,.pv (.int .i64 i)),(9,.pv (.int .u8 ((b.toNat / 2 ^ k / 2:Nat):Int))),(10,.pv (.int .i64 k)),(11,.pv (.bool low)),(13,.pv (.int .i64 n))])
     (fun n=>[.pcells (bcells (fun j=>if j<n then ((A >>> 1).getLsbD j != (low&&over j)) else (A >>> 1).getLsbD j)),.pcells (bcells over)]) (fun n hn r6=>?_) (fun r6=>?_) ⟨rfl,rfl,rfl,rfl,rfl,rfl,rfl,rfl,trivial⟩ rfl
    ·refine aU (decide_eq_true (by omega)) ?_
     refine aa (by simp; omega) ?_
     have hg:(bcells (fun j=>if j<n then ((A >>> 1).getLsbD j != (low&&over j)) else (A >>> 1).getLsbD j))[n]? = some (.bool ((A >>> 1).getLsbD n)):=by
      rw [bcells_get _ hn,if_neg (Nat.lt_irrefl n)]
     refine a8 _ rfl ?_
     refine ab hg ?_
     have fin:(bcells (fun j=>if j<n then ((A >>> 1).getLsbD j != (low&&over j)) else (A >>> 1).getLsbD j)).set n (.bool ((A >>> 1).getLsbD n != (low&&over n))) =
      bcells (fun j=>if j<n+1 then ((A >>> 1).getLsbD j != (low&&over j)) else (A >>> 1).getLsbD j):=by
      rw [bcells_set]
      refine bcells_congr fun j _=>?_
      by_cases h:j=n
      ·subst h; rw [if_pos rfl,if_pos (by omega)]
      ·rw [if_neg h]
       by_cases h2:j<n
       ·rw [if_pos h2,if_pos (by omega)]
       ·rw [if_neg h2,if_neg (by omega)]
     have hblt:Nat.blt n (bcells (fun j=>if j<n then ((A >>> 1).getLsbD j != (low&&over j)) else (A >>> 1).getLsbD j)).length=true:=by
      rw [bcells_len]; exact Nat.ble_eq_true_of_le hn
     cases low with
     | true=>
       refine aa (by simp; omega) ?_
       refine a8 _ rfl ?_
       refine ab (bcells_get _ hn) ?_
       refine aD (show _=((A >>> 1).getLsbD n != (true&&over n)) from rfl) ?_
       refine aa (by simp; omega) ?_
       refine a8 _ rfl ?_
       refine aa hblt ?_
       refine a9 _ fin ?_
       refine a9 _ (aq (by omega)) ?_
       exact Has.intro ⟨⟨rfl,rfl,rfl,rfl,rfl,rfl,rfl,rfl,trivial⟩,rfl⟩
     | false=>
       refine aD (show _=((A >>> 1).getLsbD n != (false&&over n)) from rfl) ?_
       refine aa (by simp; omega) ?_
       refine a8 _ rfl ?_
       refine aa hblt ?_
       refine a9 _ fin ?_
       refine a9 _ (aq (by omega)) ?_
       exact Has.intro ⟨⟨rfl,rfl,rfl,rfl,rfl,rfl,rfl,rfl,trivial⟩,rfl⟩
    ·refine aQ (decide_eq_false (by omega)) ?_
     refine Has.intro ?_
     refine a9 _ (aq (by omega)) ?_
     refine Has.intro ⟨⟨rfl,rfl,rfl,rfl,?_,rfl,trivial⟩,?_⟩
     ·show AV.pv (.int .u8 ((b.toNat / 2 ^ k / 2:Nat):Int))=_
      rw [Nat.div_div_eq_div_mul,←Nat.pow_succ]
     ·show [HObj.pcells (bcells _),.pcells (bcells over)]=_
      congr 2
      refine bcells_congr fun j hj=>?_
      rw [if_pos hj,ser_step,hA,hlow,BitVec.getLsbD_xor]
      cases low<;>simp [over]<;>rfl
   ·show [HObj.pcells (bcells _),.pcells (bcells over)]=_
    congr 2
  ·refine aQ (decide_eq_false (by omega)) ?_
   refine Has.intro ?_
   refine a9 _ (aq (by omega)) ?_
   refine Has.intro ⟨⟨rfl,rfl,rfl,rfl,trivial⟩,?_⟩
   show [HObj.pcells (bcells (ser R b.toNat 8).getLsbD),.pcells (bcells over)]=_
   rw [ser_end,←hR]
   unfold sum
   rw [take_foldl hb]
  ·show AV.pv (.int .u8 ((b.toNat:Nat):Int))=_
   rw [Nat.pow_zero,Nat.div_one]
 ·refine aQ (decide_eq_false (by omega)) ?_
  refine Has.intro ?_
  have hsz:s.data.toList.length=s.size:=Array.length_toList
  have ht:s.data.toList.take s.size=s.data.toList:=List.take_of_length_le (by omega)
  refine aw ?_
  generalize hX:crc s.data.toList=X
  refine bD 32 (fun m=>[(3,.ptr 0 0),(14,.pv (.int .u32 ((X.toNat / 2 ^ (32-m):Nat):Int))),(15,.pv (.int .i64 (31-(m:Int))))])
   (fun _=>[.pcells (bcells (sum 0xffffffff#32 s.data.toList).getLsbD),.pcells (bcells over)]) (fun m hm r7=>?_) (fun r7=>?_) ⟨rfl,?_,rfl,trivial⟩ (by rw [ht])
  ·refine aU (decide_eq_true (by omega)) ?_
   have hlt:X.toNat / 2 ^ (32-m)<2147483648:=by
    have h1:=X.isLt
    have h2:2≤2 ^ (32-m):=by
     rw [show 32-m=(31-m)+1 by omega,Nat.pow_succ]
     have:0<2 ^ (31-m):=Nat.pow_pos (by decide)
     omega
    have:X.toNat / 2 ^ (32-m)≤X.toNat / 2:=Nat.div_le_div_left h2 (by decide)
    omega
   refine a9 ((2*(X.toNat / 2 ^ (32-m)):Nat):Int) (by
    rw [show (((X.toNat / 2 ^ (32-m):Nat):Int)*2)=((2*(X.toNat / 2 ^ (32-m)):Nat):Int) by omega]
    exact wrap_u32 (by omega)) ?_
   refine aa (by simp; omega) ?_
   refine a8 _ rfl ?_
   refine ab (show (bcells (sum 0xffffffff#32 s.data.toList).getLsbD)[addO 0 (31-(m:Int)).toNat]? = some (.bool ((sum 0xffffffff#32 s.data.toList).getLsbD (31-m))) by
    rw [show (31-(m:Int)).toNat=31-m by omega]
    exact bcells_get (sum 0xffffffff#32 s.data.toList).getLsbD (show 31-m<32 by omega)) ?_
   have hbit:X.getLsbD (31-m) = !(sum 0xffffffff#32 s.data.toList).getLsbD (31-m):=by
    rw [←hX]; unfold crc; rw [BitVec.getLsbD_not]
    simp; omega
   have hn:=bits_num X m hm
   cases hc:(sum 0xffffffff#32 s.data.toList).getLsbD (31-m) with
   | true=>
     rw [hc] at hbit
     rw [hbit] at hn
     refine a9 (31-((m+1:Nat):Int)) (by rw [wrap_i64 (by omega) (by omega)]; omega) ?_
     refine Has.intro ⟨⟨rfl,?_,rfl,trivial⟩,rfl⟩
     show AV.pv (.int .u32 ((2*(X.toNat / 2 ^ (32-m)):Nat):Int))=_
     rw [hn]; rfl
   | false=>
     rw [hc] at hbit
     rw [hbit] at hn
     refine a9 ((2*(X.toNat / 2 ^ (32-m))+1:Nat):Int) (by
      exact wrap_u32 (n:=2*(X.toNat / 2 ^ (32-m))+1) (by omega)) ?_
     refine a9 (31-((m+1:Nat):Int)) (by rw [wrap_i64 (by omega) (by omega)]; omega) ?_
     refine Has.intro ⟨⟨rfl,?_,rfl,trivial⟩,rfl⟩
     show AV.pv (.int .u32 ((2*(X.toNat / 2 ^ (32-m))+1:Nat):Int))=_
     rw [hn]; rfl
  ·refine aQ (decide_eq_false (by omega)) ?_
   refine Has.intro ?_
   refine Has.intro (Has.intro ?_)
   show PV.int .u32 ((X.toNat / 2 ^ (32-32):Nat):Int)=_
   rw [Nat.sub_self,Nat.pow_zero,Nat.div_one]; rfl
  ·show AV.pv (.int .u32 0)=_
   have:X.toNat / 2 ^ (32-0)=0:=Nat.div_eq_of_lt X.isLt
   rw [this]; rfl
 ·show [HObj.pcells (bcells _),.pcells (bcells _)]=_
  have e1:bcells (fun j=>decide (j<32))=bcells (sum 0xffffffff#32 (List.take 0 s.data.toList)).getLsbD:=by
   refine bcells_congr fun j hj=>?_
   rw [List.take_zero]
   show decide (j<32)=(0xffffffff#32:BitVec 32).getLsbD j
   have:(0xffffffff#32:BitVec 32)=BitVec.allOnes 32:=by decide
   rw [this,BitVec.getLsbD_allOnes]
  have e2:bcells (fun j=>decide (j<32)&&(3988292384 / 2 ^ j % 2==1))=bcells over:=by
   refine bcells_congr fun j hj=>?_
   rw [decide_eq_true hj,Bool.true_and,over_eq j hj]
  rw [e1,e2]
end Go.Proofs.YtflfdglnelbbiaaGreat.W
namespace Go.Proofs.YtflfdglnelbbiaaGreat.W
open Go Go.VM
theorem strOf_bc (bs:List UInt8):strOfCells (bc bs)=some bs:=by
 induction bs with
 | nil=>rfl
 | cons b bs ih=>
   show (strOfCells (bc bs)).map _=_
   rw [ih]
   simp
theorem strOf_bc' (bs:List UInt8) {cs:List PV} (h:cs=bc bs):strOfCells cs=some bs:=by rw [h,strOf_bc]
def four8 (r:BitVec 32):List UInt8:=[UInt8.ofNat (r.toNat / 16777216 % 256),UInt8.ofNat (r.toNat / 65536 % 256),UInt8.ofNat (r.toNat / 256 % 256),UInt8.ofNat (r.toNat % 256)]
theorem four_eq (r:BitVec 32):four r=bc (four8 r):=by
 unfold four four8 bc
 simp only [List.map_cons,List.map_nil,UInt8.toNat_ofNat',Nat.mod_mod]
theorem u32_div (a b:Nat) (h:a<4294967296):IntKind.u32.wrap ((a:Int).tdiv (b:Int))=((a / b:Nat):Int):=by
 show IntKind.u32.wrap ((a / b:Nat):Int)=_
 exact wrap_u32 (Nat.lt_of_le_of_lt (Nat.div_le_self _ _) h)
theorem tmod_nats (a b:Nat):(a:Int).tmod (b:Int)=((a % b:Nat):Int):=rfl
theorem refBytes_ok (r:BitVec 32):EP (EE env) 48 [u32 r]=some (.str ⟨(four8 r).toArray⟩):=by
 have hr:=r.isLt
 refine Has.eq (aE ?_)
 refine aa rfl ?_
 refine a9 _ (u32_div r.toNat 16777216 hr) ?_
 refine a9 _ (wrap_u8_mod _) ?_
 refine aa rfl ?_
 refine a9 _ (u32_div r.toNat 65536 hr) ?_
 refine aa rfl ?_
 refine a9 _ (tmod_nats _ 256) ?_
 refine a9 ((r.toNat / 65536 % 256:Nat):Int) (by rw [wrap_u8_mod,Nat.mod_mod]) ?_
 refine aa rfl ?_
 refine a9 _ (u32_div r.toNat 256 hr) ?_
 refine aa rfl ?_
 refine a9 _ (tmod_nats _ 256) ?_
 refine a9 ((r.toNat / 256 % 256:Nat):Int) (by rw [wrap_u8_mod,Nat.mod_mod]) ?_
 refine aa rfl ?_
 refine a9 _ (tmod_nats _ 256) ?_
 refine a9 ((r.toNat % 256:Nat):Int) (by rw [wrap_u8_mod,Nat.mod_mod]) ?_
 refine aa rfl ?_
 refine bj (strOf_bc' (four8 r) (four_eq r)) ?_
 exact Has.intro (Has.intro rfl)
theorem valStep_nat (x:BitVec 32) (n:Nat) (hx:x.toNat<16777216) (hn:n<256):(valStep x (UInt8.ofNat n)).toNat=x.toNat*256+n:=by
 unfold valStep
 have e:(UInt8.ofNat n).toNat=n:=by rw [UInt8.toNat_ofNat']; omega
 rw [e,BitVec.toNat_or,BitVec.toNat_shiftLeft,BitVec.toNat_ofNat,Nat.mod_eq_of_lt (by omega:n<2 ^ 32)]
 have h1:x.toNat <<< 8=x.toNat*256:=by rw [Nat.shiftLeft_eq]
 have h2:x.toNat <<< 8 % 2 ^ 32=x.toNat <<< 8:=by rw [h1]; omega
 rw [h2,←Nat.shiftLeft_add_eq_or_of_lt (by omega:n<2 ^ 8),h1]
theorem val_four (r:BitVec 32):val (four8 r)=r:=by
 have hr:=r.isLt
 apply BitVec.eq_of_toNat_eq
 unfold val four8
 simp only [List.foldl_cons,List.foldl_nil]
 have h1:=valStep_nat 0#32 (r.toNat / 16777216 % 256) (by decide) (by omega)
 have z:(0#32:BitVec 32).toNat=0:=rfl
 rw [z] at h1
 have h2:=valStep_nat (valStep 0#32 (UInt8.ofNat (r.toNat / 16777216 % 256))) (r.toNat / 65536 % 256) (by omega) (by omega)
 have h3:=valStep_nat (valStep (valStep 0#32 (UInt8.ofNat (r.toNat / 16777216 % 256))) (UInt8.ofNat (r.toNat / 65536 % 256))) (r.toNat / 256 % 256) (by omega) (by omega)
 have h4:=valStep_nat _ (r.toNat % 256) (by rw [h3,h2,h1]; omega) (by omega)
 rw [h4,h3,h2,h1]
 omega
def joined (rows:List (Ext × List UInt8)) (i:Nat):List UInt8:=((rows.take i).map (·.2)).flatten
theorem joined_succ {rows:List (Ext × List UInt8)} {i:Nat} {p:Ext × List UInt8} (h:rows[i]? = some p):joined rows (i+1)=joined rows i++p.2:=by
 unfold joined
 rw [List.take_add_one,h]; simp
theorem mk_append (a b:List UInt8):(⟨a.toArray⟩:ByteArray)++⟨b.toArray⟩=⟨(a++b).toArray⟩:=by
 apply ByteArray.ext
 simp [ByteArray.data_append]
end Go.Proofs.YtflfdglnelbbiaaGreat.W
namespace Go.Proofs.YtflfdglnelbbiaaGreat.W
open Go Go.VM
def num (bs:List UInt8):Nat:=bs.foldl (fun u c=>u*256+c.toNat) 0
theorem num_step {bs:List UInt8} {i:Nat} {c:UInt8} (h:bs[i]? = some c):num (bs.take (i+1))=num (bs.take i)*256+c.toNat:=take_foldl h
theorem num_acc:∀ (l:List UInt8) (u:Nat),l.foldl (fun u c=>u*256+c.toNat) u=u*256 ^ l.length+num l:=by
 intro l
 induction l with
 | nil=>intro u; simp [num]
 | cons c l ih=>
   intro u
   have h2:num (c::l)=(0*256+c.toNat)*256 ^ l.length+num l:=ih _
   rw [List.foldl_cons,ih,h2,List.length_cons,Nat.pow_succ,Nat.add_mul,Nat.zero_mul,Nat.zero_add,Nat.add_assoc,Nat.mul_assoc,Nat.mul_comm 256]
theorem num_cons (c:UInt8) (l:List UInt8):num (c::l)=c.toNat*256 ^ l.length+num l:=by
 show l.foldl (fun u c=>u*256+c.toNat) (0*256+c.toNat)=_
 rw [num_acc,Nat.zero_mul,Nat.zero_add]
theorem num_lt:∀ (l:List UInt8),num l<256 ^ l.length:=by
 intro l
 induction l with
 | nil=>decide
 | cons c l ih=>
   rw [num_cons,List.length_cons,Nat.pow_succ]
   have h:=c.toBitVec.isLt
   have h:c.toNat+1≤256:=by have:c.toNat<256:=h; omega
   have:=Nat.mul_le_mul_right (256 ^ l.length) h
   rw [Nat.add_mul,Nat.one_mul,Nat.mul_comm 256] at this
   omega
def bigB (u:Nat):Nat→List UInt8
 | 0=>[]
 | k+1=>UInt8.ofNat (u / 256 ^ k % 256)::bigB u k
theorem bigB_len (u k:Nat):(bigB u k).length=k:=by
 induction k with
 | zero=>rfl
 | succ k ih=>rw [bigB,List.length_cons,ih]
theorem bigB_get (u:Nat):∀ (k i:Nat),i<k→(bigB u k)[i]? = some (UInt8.ofNat (u / 256 ^ (k-1-i) % 256)):=by
 intro k
 induction k with
 | zero=>intro i h; omega
 | succ k ih=>
   intro i h
   cases i with
   | zero=>rw [bigB]; simp
   | succ i=>
     rw [bigB,List.getElem?_cons_succ,ih i (by omega)]
     congr 4
     congr 1
     omega
theorem bigB_mod (a u n:Nat):∀ m,m≤n→bigB (a*256 ^ n+u) m=bigB u m:=by
 intro m
 induction m with
 | zero=>intro _; rfl
 | succ m ih=>
   intro h
   rw [bigB,bigB,ih (by omega)]
   congr 2
   have e:256 ^ n=256 ^ m*(256*256 ^ (n-m-1)):=by
    rw [←Nat.pow_succ',←Nat.pow_add]; congr 1; omega
   rw [e,show a*(256 ^ m*(256*256 ^ (n-m-1)))=256 ^ m*(256*(a*256 ^ (n-m-1))) by
    rw [Nat.mul_left_comm a,Nat.mul_left_comm a],Nat.mul_add_div (Nat.pow_pos (by decide)),Nat.mul_add_mod]
theorem bigB_num:∀ (l:List UInt8),bigB (num l) l.length=l:=by
 intro l
 induction l with
 | nil=>rfl
 | cons c l ih=>
   rw [List.length_cons,bigB,num_cons,bigB_mod _ _ _ _ (Nat.le_refl _),ih]
   congr 1
   have h:=num_lt l
   have hc:c.toNat<256:=c.toBitVec.isLt
   rw [Nat.mul_comm,Nat.mul_add_div (Nat.pow_pos (by decide)),Nat.div_eq_of_lt h,Nat.add_zero,Nat.mod_eq_of_lt hc]
   simp
theorem num_bigB (u:Nat):∀ k,num (bigB u k)=u % 256 ^ k:=by
 intro k
 induction k with
 | zero=>simp [bigB,num,Nat.mod_one]
 | succ k ih=>
   rw [bigB,num_cons,bigB_len,ih,UInt8.toNat_ofNat',Nat.mod_mod_of_dvd _ (by decide:(2 ^ 8) ∣ 256)]
   have h1:(2:Nat) ^ 8=256:=by decide
   rw [h1,Nat.pow_succ,Nat.mod_mul,Nat.mul_comm,Nat.add_comm]
def u64 (n:Nat):PV:=.int .u64 n
theorem wrap_u64n {n:Nat} (h:n<18446744073709551616):IntKind.u64.wrap (n:Int)=n:=by
 rw [aL]; omega
theorem u64_shl8 {n:Nat} (h:n*256<18446744073709551616):IntKind.u64.wrap ((n:Int)*2 ^ (min (8:Int).toNat IntKind.u64.bits))=((n*256:Nat):Int):=by
 have e:(2:Int) ^ (min (8:Int).toNat IntKind.u64.bits)=256:=by decide
 rw [e,show (n:Int)*256=((n*256:Nat):Int) by simp,wrap_u64n h]
theorem sum_lt {n c:Nat} (h:n*256<18446744073709551616) (hc:c<256):n*256+c<18446744073709551616:=by
 have h1:n<72057594037927936:=Nat.lt_of_mul_lt_mul_right (a:=256) h
 have h2:(n+1)*256≤72057594037927936*256:=Nat.mul_le_mul_right 256 h1
 exact Nat.lt_of_lt_of_le (Nat.add_lt_add_left hc _) (by rw [←Nat.succ_mul]; exact h2)
theorem u64_or8 {n c:Nat} (h:n*256<18446744073709551616) (hc:c<256):IntKind.u64.wrap ((BitVec.ofInt IntKind.u64.bits ((n*256:Nat):Int) ||| BitVec.ofInt IntKind.u64.bits (c:Int)).toNat:Int)=((n*256+c:Nat):Int):=by
 show IntKind.u64.wrap ((BitVec.ofInt 64 ((n*256:Nat):Int) ||| BitVec.ofInt 64 (c:Int)).toNat:Int)=_
 have hb:=sum_lt h hc
 have hc2:c<2 ^ 64:=Nat.lt_of_le_of_lt (Nat.le_add_left c (n*256)) hb
 rw [BitVec.ofInt_natCast,BitVec.ofInt_natCast,BitVec.toNat_or,BitVec.toNat_ofNat,BitVec.toNat_ofNat,Nat.mod_eq_of_lt h,Nat.mod_eq_of_lt hc2]
 have hs:=Nat.shiftLeft_add_eq_or_of_lt (show c<2 ^ 8 from hc) n
 rw [Nat.shiftLeft_eq,show (2:Nat) ^ 8=256 from rfl] at hs
 rw [←hs]
 exact wrap_u64n hb
theorem pow_le8 {i:Nat} (h:i<8):256 ^ i*256≤18446744073709551616:=by
 have:256 ^ (i+1)≤256 ^ 8:=Nat.pow_le_pow_right (by decide) (by omega)
 rw [Nat.pow_succ] at this
 exact this
theorem number_ok (x:Ext) (bs:List UInt8) (h8:bs.length≤8):EP (EE env) 85 [.sl x bs.length (bc bs)]=some (u64 (num bs)):=by
 refine Has.eq (aE ?_)
 refine aw ?_
 refine bD bs.length (fun i=>[(3,.pv (u64 (num (bs.take i)))),(6,.pv (.sl x bs.length (bc bs))),(7,.pv (.int .i64 bs.length)),(8,.pv (.int .i64 i))]) (fun _=>[]) (fun i hi r=>?_) (fun r=>?_) ⟨rfl,rfl,rfl,rfl,trivial⟩ rfl
 ·have hc:(i:Int)<bs.length:=by omega
  obtain ⟨c,hcg⟩:∃ c,bs[i]? = some c:=⟨_,List.getElem?_eq_getElem hi⟩
  have hlt:=num_lt (bs.take i)
  rw [List.length_take,Nat.min_eq_left (Nat.le_of_lt hi)] at hlt
  have hp:=pow_le8 (show i<8 by omega)
  have h256:num (bs.take i)*256<18446744073709551616:=by
   have:=Nat.mul_lt_mul_of_pos_right hlt (show 0<256 by decide)
   omega
  have hcl:c.toNat<256:=c.toBitVec.isLt
  refine aY hc ?_
  refine aa (by (first | rfl | (simp; done) | (simp; omega))) ?_
  refine ab (v:=.int .u8 c.toNat) (by rw [aG,Int.toNat_natCast,Nat.mul_one]; exact bc_get hcg) ?_
  refine aa rfl ?_
  refine a9 _ (u64_shl8 h256) ?_
  refine a9 _ (wrap_u64n (by omega)) ?_
  refine a9 _ (u64_or8 h256 hcl) ?_
  refine a9 _ (aq (by omega)) ?_
  exact Has.intro ⟨⟨by rw [num_step hcg]; rfl,rfl,rfl,rfl,trivial⟩,rfl⟩
 ·refine aF (by omega) ?_
  refine Has.intro (Has.intro (Has.intro ?_))
  rw [List.take_of_length_le (Nat.le_refl _)]; rfl
def sv (s:List UInt8):PV:=.str ⟨s.toArray⟩
theorem ay (s:List UInt8):(⟨s.toArray⟩:ByteArray).size=s.length:=by simp [ByteArray.size]
theorem rnumber_ok (bs:List UInt8) (h8:bs.length≤8):EP (EE env) 59 [sv bs]=some (u64 (num bs)):=by
 refine Has.eq (aE ?_)
 refine aw ?_
 refine bD bs.length (fun i=>[(0,.pv (sv bs)),(3,.pv (u64 (num (bs.take i)))),(4,.pv (.int .i64 i))]) (fun _=>[]) (fun i hi r=>?_) (fun r=>?_) ⟨rfl,rfl,rfl,trivial⟩ rfl
 ·obtain ⟨c,hcg⟩:∃ c,bs[i]? = some c:=⟨_,List.getElem?_eq_getElem hi⟩
  have hlt:=num_lt (bs.take i)
  rw [List.length_take,Nat.min_eq_left (Nat.le_of_lt hi)] at hlt
  have hp:=pow_le8 (show i<8 by omega)
  have h256:num (bs.take i)*256<18446744073709551616:=by
   have:=Nat.mul_lt_mul_of_pos_right hlt (show 0<256 by decide)
   omega
  have hcl:c.toNat<256:=c.toBitVec.isLt
  refine aY (by rw [ay]; omega) ?_
  refine a9 (α:=Int) ((num (bs.take i)*256:Nat):Int) (by rw [show (num (bs.take i):Int)*256=((num (bs.take i)*256:Nat):Int) by simp,wrap_u64n h256]) ?_
  refine aa (by rw [ay]; simp; omega) ?_
  refine ab (v:=c) (by rw [Int.toNat_natCast]; exact hcg) ?_
  refine a9 _ (wrap_u64n (by omega)) ?_
  refine a9 (α:=Int) ((num (bs.take i)*256+c.toNat:Nat):Int) (by rw [←Int.natCast_add,wrap_u64n (sum_lt h256 hcl)]) ?_
  refine a9 _ (aq (by omega)) ?_
  exact Has.intro ⟨⟨rfl,by rw [num_step hcg]; rfl,rfl,trivial⟩,rfl⟩
 ·refine aF (by rw [ay]; omega) ?_
  refine Has.intro (Has.intro (Has.intro ?_))
  rw [List.take_of_length_le (Nat.le_refl _)]; rfl
theorem size_ok (n:Int):EP (EE env) 58 [.int .i64 n]=some (.int .i64 (if 0≤n∧n≤65536 then n+20 else 0)):=by
 refine Has.eq (aE ?_)
 refine ah (fun h1=>?_) (fun h1=>?_)
 ·rw [if_neg (by omega)]
  exact Has.intro (Has.intro rfl)
 refine ah (fun h2=>?_) (fun h2=>?_)
 ·rw [if_neg (by omega)]
  exact Has.intro (Has.intro rfl)
 rw [if_pos (by omega)]
 refine a9 (16+n) (wrap_i64 (by omega) (by omega)) ?_
 refine a9 (n+20) (by rw [wrap_i64 (by omega) (by omega)]; omega) ?_
 exact Has.intro (Has.intro rfl)
theorem big_set {u k i:Nat} (h:i<k):((bigB u k).take i++List.replicate (k-i) 0).set i (UInt8.ofNat (u / 256 ^ (k-1-i) % 256))=(bigB u k).take (i+1)++List.replicate (k-(i+1)) 0:=by
 have hl:=bigB_len u k
 rw [List.take_add_one,bigB_get u k i h,List.set_append_right _ _ (by simp [hl]; omega)]
 have e:i-((bigB u k).take i).length=0:=by simp [hl]; omega
 rw [e,show k-i=(k-(i+1))+1 by omega,List.replicate_succ,List.set_cons_zero,List.append_assoc]; rfl
theorem u64_shr (u m:Nat) (hm:8*m≤64):((u:Int)).fdiv (2 ^ (min ((8*m:Nat):Int).toNat IntKind.u64.bits))=((u / 256 ^ m:Nat):Int):=by
 rw [Int.fdiv_eq_ediv_of_nonneg _ (by exact Int.le_of_lt (Int.pow_pos (by decide)))]
 have:min ((8*m:Nat):Int).toNat IntKind.u64.bits=8*m:=by rw [Int.toNat_natCast]; simp [IntKind.bits]; omega
 rw [this,Int.pow_mul,show (2:Int) ^ 8=256 by decide]
 simp
theorem u8_conv (n:Nat):IntKind.u8.wrap (n:Int)=((UInt8.ofNat (n % 256)).toNat:Int):=by
 rw [wrap_u8_mod,UInt8.toNat_ofNat']
 congr 1
 show n % 256=n % 256 % 256
 rw [Nat.mod_mod]
theorem at1 (k:Nat):addO 0 (mulE ((k:Nat):Int).toNat 1)=k:=by
 rw [addO_eq,aG,Int.toNat_natCast]; omega
theorem big_len (u:Nat) {k i:Nat} (h:i≤k):((bigB u k).take i++List.replicate (k-i) 0).length=k:=by
 simp [bigB_len]; omega
set_option maxHeartbeats 1000000 in
theorem big_ok (u k:Nat) (hk:1≤k∧k≤8):EP (EE env) 74 [u64 u,.int .i64 k]=some (.sl .nn k (bc (bigB u k))):=by
 refine Has.eq (aE ?_)
 refine aa (by simp; omega) ?_
 refine a9 (bc ((bigB u k).take 0++List.replicate (k-0) 0)) (by rw [Int.toNat_natCast,bc_zeros]; rfl) ?_
 refine aw ?_
 refine bD k (fun i=>[(0,.pv (u64 u)),(1,.pv (.int .i64 k)),(5,.hs 1 0 0 k k),(10,.pv (.int .i64 k)),(11,.pv (.int .i64 i))]) (fun i=>[.pcells (bc ((bigB u k).take i++List.replicate (k-i) 0))]) (fun i hi r=>?_) (fun r=>?_) ⟨rfl,rfl,rfl,rfl,rfl,trivial⟩ rfl
 ·refine aY (by omega) ?_
  refine a9 ((k-1:Nat):Int) (by rw [wrap_i64 (by omega) (by omega)]; omega) ?_
  refine a9 ((k-1-i:Nat):Int) (by rw [wrap_i64 (by omega) (by omega)]; omega) ?_
  refine a9 ((8*(k-1-i):Nat):Int) (by rw [wrap_i64 (by omega) (by omega)]; omega) ?_
  refine aa (by simp; omega) ?_
  refine a9 _ (u64_shr u (k-1-i) (by omega)) ?_
  refine a9 _ (u8_conv _) ?_
  refine aa (by simp; omega) ?_
  refine a8 _ rfl ?_
  refine aa (by rw [at1,be,big_len u (Nat.le_of_lt hi)]; exact Nat.ble_eq_true_of_le hi) ?_
  refine a9 (bc ((bigB u k).take (i+1)++List.replicate (k-(i+1)) 0)) (by rw [at1,bc_set,big_set hi]) ?_
  refine a9 _ (aq (by omega)) ?_
  exact Has.intro ⟨⟨rfl,rfl,rfl,rfl,rfl,trivial⟩,rfl⟩
 ·refine aF (by omega) ?_
  have hb:(bigB u k).take k++List.replicate (k-k) 0=bigB u k:=by
   rw [Nat.sub_self,List.replicate_zero,List.append_nil,List.take_of_length_le (by rw [bigB_len]; omega)]
  rw [hb]
  refine Has.intro (Has.intro (Has.of_eq (x:=PV.sl .nn k (bc (bigB u k))) ?_ rfl))
  have hl:(bc (bigB u k)).length=k:=by rw [be,bigB_len]
  show (bif Nat.ble (0+k*1) (bc (bigB u k)).length then some (PV.sl .nn k (((bc (bigB u k)).drop 0).take (k*1))) else none)=_
  rw [hl,Nat.zero_add,Nat.mul_one,Nat.ble_self_eq_true,List.drop_zero,List.take_of_length_le (by omega)]; rfl
theorem add_room (a b:List UInt8) (h:a.length+b.length≤1000000):decide ((⟨a.toArray⟩:ByteArray).size+(⟨b.toArray⟩:ByteArray).size≤9223372036854775807)=true:=by
 rw [ay,ay]; exact decide_eq_true (by omega)
theorem u64_div (u i:Nat) (hu:u<18446744073709551616):IntKind.u64.wrap (((u / 256 ^ i:Nat):Int).tdiv 256)=((u / 256 ^ (i+1):Nat):Int):=by
 have e:((u / 256 ^ i:Nat):Int).tdiv 256=((u / 256 ^ (i+1):Nat):Int):=by
  rw [Nat.pow_succ,←Nat.div_div_eq_div_mul]; rfl
 rw [e,wrap_u64n (Nat.lt_of_le_of_lt (Nat.div_le_self _ _) hu)]
theorem u8_rem (n:Nat):IntKind.u8.wrap ((n:Int).tmod 256)=((UInt8.ofNat (n % 256)).toNat:Int):=by
 have e:(n:Int).tmod 256=((n % 256:Nat):Int):=rfl
 rw [e,u8_conv,Nat.mod_mod]
set_option maxHeartbeats 1000000 in
theorem rbig_ok (u k:Nat) (hk:k≤8) (hu:u<18446744073709551616):EP (EE env) 47 [u64 u,.int .i64 k]=some (sv (bigB u k)):=by
 refine Has.eq (aE ?_)
 refine aw ?_
 refine bD k (fun i=>[(0,.pv (u64 (u / 256 ^ i))),(1,.pv (.int .i64 k)),(5,.pv (sv (bigB u i))),(6,.pv (.int .i64 i))]) (fun i=>[]) (fun i hi r=>?_) (fun r=>?_) ⟨by rw [Nat.pow_zero,Nat.div_one]; rfl,rfl,rfl,rfl,trivial⟩ rfl
 ·refine aY (by omega) ?_
  refine aa rfl ?_
  refine ao ?_
  refine a9 _ (u8_rem _) ?_
  refine aa rfl ?_
  refine bj (strOf_bc' [UInt8.ofNat (u / 256 ^ i % 256)] rfl) ?_
  refine aa (add_room [UInt8.ofNat (u / 256 ^ i % 256)] (bigB u i) (by rw [bigB_len]; simp; omega)) ?_
  refine a9 (⟨(bigB u (i+1)).toArray⟩:ByteArray) (mk_append [UInt8.ofNat (u / 256 ^ i % 256)] (bigB u i)) ?_
  refine aa rfl ?_
  refine a9 _ (u64_div u i hu) ?_
  refine a9 _ (aq (by omega)) ?_
  exact Has.intro ⟨⟨rfl,rfl,rfl,rfl,trivial⟩,rfl⟩
 ·refine aF (by omega) ?_
  exact Has.intro (Has.intro (Has.intro rfl))
end Go.Proofs.YtflfdglnelbbiaaGreat.W
namespace Go.Proofs.YtflfdglnelbbiaaGreat.W
open Go Go.VM
theorem seq_if {R:Type} {Q:R→Prop} {env:Env} {E:Orc} {a b:VCode} {r:Regs} {h:Heap} {k:Ex→Regs→Heap→Option R} (Lr:List (Nat × AV)) (Pr:Prop) (L:List (Nat × AV)) (Pn:Prop) (H:Heap)
 (ha:Has (evK env E a Res r h doneK) fun x=>(x.1 = .ret∧Agr x.2.1 Lr∧x.2.2=H∧Pr)∨(x.1 = .normal∧Agr x.2.1 L∧x.2.2=H∧Pn))
 (hr:Pr→∀ r,Has (k .ret (setL r Lr) H) Q) (hn:Pn→∀ r,Has (evK env E b R (setL r L) H k) Q):Has (evK env E (.seq a b) R r h k) Q:=by
 refine seq_join (fun e r h=>(e = .ret∧Agr r Lr∧h=H∧Pr)∨(e = .normal∧Agr r L∧h=H∧Pn)) ha fun e r h hj=>?_
 rcases hj with ⟨rfl,h2,rfl,h4⟩ | ⟨rfl,h2,rfl,h4⟩
 ·have:=hr h4 r
  rw [h2.eq] at this
  exact this
 ·have:=hn h4 r
  rw [h2.eq] at this
  exact this
theorem grow_ok (n:Nat) (h0:0<n) (h1:n≤1000000):EE env (.fn 91) [.pv (.sl .nil 0 []),.pv (.int .i64 n)] []=some (.tsl 0 0 [],[.tok 0 1]):=by
 refine Has.eq (aK ?_)
 refine aF (by omega) ?_
 refine a9 0 rfl ?_
 refine a9 (n:Int) (by rw [wrap_i64 (by omega) (by omega)]; omega) ?_
 refine aY (by omega) ?_
 refine aa rfl ?_
 refine a9 [] rfl ?_
 refine aa (by simp [Ext.noApp,Ext.part,mostBytes]; omega) ?_
 refine aa rfl ?_
 refine aa rfl ?_
 exact Has.intro rfl
theorem joined_le (rows:List (Ext × List UInt8)) (i:Nat):(joined rows i).length≤(joined rows rows.length).length:=by
 unfold joined
 rw [List.take_of_length_le (Nat.le_refl _)]
 conv=>rhs; rw [←List.take_append_drop i rows,List.map_append,List.flatten_append,List.length_append]
 omega
theorem app_tsl {R:Type} {Q:R→Prop} {H:Heap} {F:AV→Heap→Option R} {e:Ext} {t es bytes n m:Nat} {cs new:List PV} (hk:hget H t = .tok n es) (hc:cs.length=n*es) (hl:new.length=m*es) (hb:(n+m)*bytes≤mostBytes)
 (k:Has (F (.tsl t (n+m) (cs++new)) (hset H t (.tok (n+m) es))) Q):Has (appS false es bytes (.tsl t n cs) (.pv (.sl e m new)) H F) Q:=by
 rw [appS_def]
 refine a8 (.tok n es) hk ?_
 refine aa (by simp) ?_
 refine aa ?_ ?_
 ·simp only [Bool.and_eq_true]
  refine ⟨⟨Nat.ble_eq_true_of_le hb,?_⟩,?_⟩
  ·rw [aG,hc]; exact Nat.beq_refl _
  ·rw [aG,hl]; exact Nat.beq_refl _
 refine ao ?_
 refine ao ?_
 exact k
set_option maxHeartbeats 1000000 in
theorem concat_ok (x:Ext) (rows:List (Ext × List UInt8)) (h0:0<(joined rows rows.length).length) (h1:(joined rows rows.length).length≤1000000) (h2:rows.length≤100) :
 EE env (.fn 73) [.pv (.sl x rows.length (rows.map row))] []=some (.tsl 0 (joined rows rows.length).length (bc (joined rows rows.length)),[.tok (joined rows rows.length).length 1]):=by
 refine Has.eq (aK ?_)
 refine aw ?_
 refine bD rows.length (fun i=>[(0,.pv (.sl x rows.length (rows.map row))),(3,.pv (.int .i64 (joined rows i).length)),(9,.pv (.sl x rows.length (rows.map row))),(10,.pv (.int .i64 rows.length)),(11,.pv (.int .i64 i))]) (fun _=>[]) (fun i hi r=>?_) (fun r=>?_) ⟨rfl,rfl,rfl,rfl,rfl,trivial⟩ rfl
 ·obtain ⟨p,hp⟩:∃ p,rows[i]? = some p:=⟨_,List.getElem?_eq_getElem hi⟩
  have hj:=joined_succ hp
  refine aY (by omega) ?_
  refine aa (by (first | rfl | (simp; done) | (simp; omega))) ?_
  refine ab (v:=row p) (by rw [aG,Int.toNat_natCast,Nat.mul_one,List.getElem?_map,hp]; rfl) ?_
  have hle:=joined_le rows (i+1)
  have hjl:(joined rows (i+1)).length=(joined rows i).length+p.2.length:=by rw [hj,List.length_append]
  refine a9 ((joined rows (i+1)).length:Int) (by rw [wrap_i64 (by omega) (by omega)]; omega) ?_
  refine aF (by omega) ?_
  refine a9 _ (aq (by omega)) ?_
  exact Has.intro ⟨⟨rfl,rfl,rfl,rfl,rfl,trivial⟩,rfl⟩
 refine aF (by omega) ?_
 refine Has.intro ?_
 refine au (grow_ok _ h0 h1) ?_
 refine aa rfl ?_
 refine aw ?_
 refine bD rows.length (fun i=>[(6,.tsl 0 (joined rows i).length (bc (joined rows i))),(25,.pv (.sl x rows.length (rows.map row))),(26,.pv (.int .i64 rows.length)),(27,.pv (.int .i64 i))]) (fun i=>[.tok (joined rows i).length 1]) (fun i hi r=>?_) (fun r=>?_) ⟨rfl,rfl,rfl,rfl,trivial⟩ rfl
 ·obtain ⟨p,hp⟩:∃ p,rows[i]? = some p:=⟨_,List.getElem?_eq_getElem hi⟩
  have hj:=joined_succ hp
  refine aY (by omega) ?_
  refine aa (by (first | rfl | (simp; done) | (simp; omega))) ?_
  refine ab (v:=row p) (by rw [aG,Int.toNat_natCast,Nat.mul_one,List.getElem?_map,hp]; rfl) ?_
  have hle:=joined_le rows (i+1)
  have hjl:(joined rows (i+1)).length=(joined rows i).length+p.2.length:=by rw [hj,List.length_append]
  refine app_tsl (m:=p.2.length) (new:=bc p.2) rfl (by rw [be,Nat.mul_one]) (by rw [be,Nat.mul_one]) (by unfold mostBytes; omega) ?_
  refine a9 _ (aq (by omega)) ?_
  have e1:(joined rows i).length+p.2.length=(joined rows (i+1)).length:=hjl.symm
  have e2:bc (joined rows i)++bc p.2=bc (joined rows (i+1)):=by rw [hj,bc_append]
  rw [e1,e2]
  exact Has.intro ⟨⟨rfl,rfl,rfl,rfl,trivial⟩,rfl⟩
 refine aF (by omega) ?_
 exact Has.intro (Has.intro rfl)
end Go.Proofs.YtflfdglnelbbiaaGreat.W
namespace Go.Proofs.YtflfdglnelbbiaaGreat.W
open Go Go.VM
def magic:List UInt8:=[66,82,84,72]
def head (g:Nat) (body:List UInt8):List UInt8:=magic++(bigB g 8++(bigB body.length 4++body))
def frame (g:Nat) (body:List UInt8):List UInt8:=head g body++four8 (crc (head g body))
theorem head_len (g:Nat) (body:List UInt8):(head g body).length=16+body.length:=by
 simp [head,magic,bigB_len]; omega
theorem frame_len (g:Nat) (body:List UInt8):(frame g body).length=20+body.length:=by
 rw [frame,List.length_append,head_len]; simp [four8]; omega
def genP (gen:Int):Prop:=1≤gen∧gen≤1152921504606846976
instance (gen:Int):Decidable (genP gen):=by unfold genP; infer_instance
def putB (gen:Int) (body:List UInt8):List UInt8:=if genP gen∧body.length≤65536 then frame gen.toNat body else []
def putE (gen:Int) (body:List UInt8):Ext:=if genP gen∧body.length≤65536 then .nn else .nil
theorem app_tsl_hs {R:Type} {Q:R→Prop} {H:Heap} {F:AV→Heap→Option R} {t id m cap n:Nat} {cs new cells:List PV} (hk:hget H t = .tok n 1) (hi:hget H id = .pcells cells) (hs:(cells.drop 0).take (m*1)=new) (hm:0+m*1≤cells.length) (hc:cs.length=n*1) (hl:new.length=m*1) (hb:(n+m)*1≤mostBytes)
 (k:Has (F (.tsl t (n+m) (cs++new)) (hset H t (.tok (n+m) 1))) Q):Has (appS false 1 1 (.tsl t n cs) (.hs 1 id 0 m cap) H F) Q:=by
 rw [appS_def]
 refine a8 (.pcells cells) hi ?_
 refine ae hs hm ?_
 refine a8 (.tok n 1) hk ?_
 refine aa (by simp) ?_
 refine aa ?_ ?_
 ·simp only [Bool.and_eq_true]
  refine ⟨⟨Nat.ble_eq_true_of_le hb,?_⟩,?_⟩
  ·rw [aG,hc]; exact Nat.beq_refl _
  ·rw [aG,hl]; exact Nat.beq_refl _
 refine ao ?_
 refine ao ?_
 exact k
set_option maxHeartbeats 2000000 in
theorem put_ok (gen:Int) (hg : -9223372036854775808≤gen∧gen≤9223372036854775807) (x:Ext) (body:List UInt8) (hl:body.length≤1000000):EP (EE env) 39 [.int .i64 gen,.sl x body.length (bc body)]=some (.sl (putE gen body) (putB gen body).length (bc (putB gen body))):=by
 refine Has.eq (aE (fn_has rfl ?_))
 refine aM [(0,.pv (.int .i64 gen)),(1,.pv (.sl x body.length (bc body)))] [] (by (refine Has.intro ⟨rfl,?_,rfl⟩; (repeat (first | exact trivial | refine ⟨rfl,?_⟩)))) (fun r=>?_)
 refine seq_if [(4,.pv (.sl .nil 0 []))] (¬ (genP gen∧body.length≤65536)) [(0,.pv (.int .i64 gen)),(1,.pv (.sl x body.length (bc body)))] (genP gen∧body.length≤65536) [] ?_ (fun h r=>?_) (fun hp r=>?_)
 ·refine ah (fun h1=>?_) (fun h1=>?_)
  ·exact Has.intro (.inl ⟨rfl,⟨rfl,trivial⟩,rfl,fun h=>by have:=h.1.1; omega⟩)
  refine ah (fun h2=>?_) (fun h2=>?_)
  ·exact Has.intro (.inl ⟨rfl,⟨rfl,trivial⟩,rfl,fun h=>by have:=h.1.2; omega⟩)
  refine ah (fun h3=>?_) (fun h3=>?_)
  ·exact Has.intro (.inl ⟨rfl,⟨rfl,trivial⟩,rfl,fun h=>by have:=h.2; omega⟩)
  ·exact Has.intro (.inr ⟨rfl,⟨rfl,rfl,trivial⟩,rfl,⟨by omega,by omega⟩,by omega⟩)
 ·unfold putE putB
  rw [if_neg h,if_neg h]
  exact Has.intro (Has.intro rfl)
 unfold putE putB
 rw [if_pos hp,if_pos hp]
 obtain ⟨g,rfl⟩:∃ g:Nat,gen=g:=⟨gen.toNat,by have:=hp.1.1; omega⟩
 obtain ⟨⟨hg1,hg2⟩,hb⟩:=hp
 rw [Int.toNat_natCast]
 have hj:∀ e1 e2 e3,joined [(e1,magic),(e2,bigB g 8),(e3,bigB body.length 4),(x,body)] 4=head g body:=fun e1 e2 e3=>by
  simp [joined,head]
 have hl4:∀ e1 e2 e3,[(e1,magic),(e2,bigB g 8),(e3,bigB body.length 4),(x,body)].length=4:=fun _ _ _=>rfl
 refine aM [(5,.tsl 1 (head g body).length (bc (head g body)))] [.dead,.tok (head g body).length 1] ?_ (fun r=>?_)
 ·refine a8 _ rfl ?_
  refine aa rfl ?_
  refine a9 (g:Int) (wrap_u64n (by omega)) ?_
  refine aj (big_ok g 8 (by decide)) ?_
  refine a9 (body.length:Int) (wrap_u64n (by omega)) ?_
  refine aj (big_ok body.length 4 (by decide)) ?_
  have hcc:=concat_ok .nnx [(.nn,magic),(.nn,bigB g 8),(.nn,bigB body.length 4),(x,body)] (by rw [hl4,hj,head_len]; omega) (by rw [hl4,hj,head_len]; omega) (show 4≤100 by decide)
  rw [hl4,hj] at hcc
  refine au hcc ?_
  refine aa (by simp) ?_
  exact Has.intro ⟨rfl,⟨rfl,trivial⟩,rfl⟩
 have hhl:=head_len g body
 have hfl:=frame_len g body
 refine aj (of1 .nnx .nn (head g body) (by rw [aS]; omega)) ?_
 refine aj (bytes_ok (crc (head g body))) ?_
 refine af ?_
 refine aa rfl ?_
 refine a9 (bc (four8 (crc (head g body)))) (four_eq _) ?_
 refine aa rfl ?_
 refine app_tsl_hs (m:=4) (new:=bc (four8 (crc (head g body)))) (cells:=bc (four8 (crc (head g body)))) rfl rfl rfl (by simp [be,four8]) (by rw [be,Nat.mul_one]) rfl (by unfold mostBytes; omega) ?_
 refine Has.intro (Has.intro ?_)
 show PV.sl .nn ((head g body).length+4) (bc (head g body)++bc (four8 (crc (head g body))))=PV.sl .nn (frame g body).length (bc (frame g body))
 rw [bc_append,hfl,hhl]
 congr 1
 omega
theorem rput_ok (g:Nat) (hg:g≤1152921504606846976) (body:List UInt8) (hl:body.length≤100000):EP (EE env) 28 [.int .i64 g,sv body]=some (sv (frame g body)):=by
 have hsz:=ay body
 have hhl:=head_len g body
 refine Has.eq (aE ?_)
 refine a9 (g:Int) (wrap_u64n (by omega)) ?_
 refine aj (rbig_ok g 8 (by decide) (by omega)) ?_
 refine aa (add_room magic (bigB g 8) (by rw [bigB_len]; decide)) ?_
 refine a9 _ (mk_append magic (bigB g 8)) ?_
 refine a9 (body.length:Int) (by rw [hsz]; exact wrap_u64n (by omega)) ?_
 refine aj (rbig_ok body.length 4 (by decide) (by omega)) ?_
 refine aa (add_room (magic++bigB g 8) (bigB body.length 4) (by rw [List.length_append,bigB_len,bigB_len]; decide)) ?_
 refine a9 _ (mk_append (magic++bigB g 8) (bigB body.length 4)) ?_
 refine aa (add_room (magic++bigB g 8++bigB body.length 4) body (by rw [List.length_append,List.length_append,bigB_len,bigB_len]; show 4+8+4+body.length≤1000000; omega)) ?_
 refine a9 (⟨(head g body).toArray⟩:ByteArray) (by rw [mk_append,head,List.append_assoc,List.append_assoc]) ?_
 refine aj (refOf_ok ⟨(head g body).toArray⟩ (by rw [ay]; omega)) ?_
 refine aj (refBytes_ok (crc (head g body))) ?_
 refine aa (add_room (head g body) (four8 (crc (head g body))) (by rw [hhl]; show 16+body.length+4≤1000000; omega)) ?_
 refine a9 _ (mk_append (head g body) (four8 (crc (head g body)))) ?_
 exact Has.intro (Has.intro rfl)
theorem str_beq (a b:List UInt8):((⟨a.toArray⟩:ByteArray).toList==(⟨b.toArray⟩:ByteArray).toList)=decide (a=b):=by
 rw [Bool.eq_iff_iff]; simp
theorem str_bne (a b:List UInt8):(!((⟨a.toArray⟩:ByteArray).toList==(⟨b.toArray⟩:ByteArray).toList))=decide (a≠b):=by
 rw [str_beq]; by_cases h:a=b<;>simp [h]
end Go.Proofs.YtflfdglnelbbiaaGreat.W
namespace Go.Proofs.YtflfdglnelbbiaaGreat.W
open Go Go.VM
def okX (x:Ext) (bs:List UInt8):Prop:=(x = .nil∧bs=[])∨x = .nn
def cx (bs:List UInt8):Ext:=match bs with
 | []=>.nnx
 | _=>.nn
def tx (x:Ext) (bs:List UInt8):Ext:=match x with
 | .nil=>.nil
 | _=>cx bs
theorem clone_nn (bs:List UInt8) (hl:bs.length≤1000000):EP (EE env) 37 [.sl .nn bs.length (bc bs)]=some (.sl (cx bs) bs.length (bc bs)):=by
 refine Has.eq (aE ?_)
 cases bs with
 | nil=>
   refine app_none ?_
   exact Has.intro (Has.intro rfl)
 | cons b bs=>
   refine app_plain rfl rfl (by rw [be,Nat.mul_one]) (by simp) (by show (0+(b::bs).length)*1≤140737488355328; omega) ?_
   refine Has.intro (Has.intro ?_)
   show PV.sl .nn (0+(b::bs).length) ([]++bc (b::bs))=_
   rw [Nat.zero_add]; rfl
theorem clone_nil:EP (EE env) 37 [.sl .nil 0 []]=some (.sl .nil 0 []):=by
 refine Has.eq (aE ?_)
 exact Has.intro (Has.intro rfl)
theorem clone_ee (bs:List UInt8) (h0:bs≠[]) (hl:bs.length≤1000000):EE env (.fn 37) [.pv (.sl .nn bs.length (bc bs))] []=some (.tsl 0 bs.length (bc bs),[.tok bs.length 1]):=by
 refine Has.eq (aK ?_)
 cases bs with
 | nil=>exact absurd rfl h0
 | cons b bs=>
   refine app_plain rfl rfl (by rw [be,Nat.mul_one]) (by simp) (by show (0+(b::bs).length)*1≤140737488355328; omega) ?_
   refine Has.intro ?_
   show (AV.tsl 0 (0+(b::bs).length) ([]++bc (b::bs)),[HObj.tok (0+(b::bs).length) 1])=_
   rw [Nat.zero_add]; rfl
def cut (n:Int) (l:Nat):Nat:=min n.toNat l
theorem bc_flat (bs:List UInt8):(bc bs).all PV.flat=true:=by
 rw [List.all_eq_true]
 intro v hv
 obtain ⟨b,_,rfl⟩:=List.mem_map.1 hv
 rfl
end Go.Proofs.YtflfdglnelbbiaaGreat.W
namespace Go.Proofs.YtflfdglnelbbiaaGreat.W
open Go Go.VM
def gN (s:List UInt8):Nat:=num ((s.take 12).drop 4)
def nN (s:List UInt8):Nat:=num ((s.take 16).drop 12)
def bodyN (s:List UInt8):List UInt8:=(s.take (16+nN s)).drop 16
def getM (s:List UInt8):Nat × List UInt8 × Int:=
 if s.length<4 then (0,[],10) else if s.take 4≠magic then (0,[],11) else if s.length<16 then (0,[],10)
 else if gN s<1∨gN s>1152921504606846976 then (0,[],11) else if nN s>65536 then (0,[],15) else if s.length<20+nN s then (0,[],10)
 else if frame (gN s) (bodyN s)≠s.take (20+nN s) then (0,[],14) else (gN s,bodyN s,0)
def getX (s:List UInt8):Ext:=if (getM s).2.2=0 then cx (getM s).2.1 else .nil
def getV (s:List UInt8):PV:=.tup [.int .i64 (getM s).1,.sl (getX s) (getM s).2.1.length (bc (getM s).2.1),.int .i64 (getM s).2.2]
theorem getV_err {s:List UInt8} {e:Int} (h:getM s=(0,[],e)) (he:e≠0):getV s = .tup [.int .i64 0,.sl .nil 0 [],.int .i64 e]:=by
 unfold getV getX; rw [h,if_neg he]; rfl
theorem getV_ok {s b:List UInt8} {g:Nat} (h:getM s=(g,b,0)):getV s = .tup [.int .i64 g,.sl (cx b) b.length (bc b),.int .i64 0]:=by
 unfold getV getX; rw [h,if_pos rfl]
theorem list4 {l:List UInt8} (h:l.length=4):∃ a b c d,l=[a,b,c,d]:=by
 match l,h with
 | [a,b,c,d],_=>exact ⟨a,b,c,d,rfl⟩
theorem valStep_u (x:BitVec 32) (c:UInt8) (hx:x.toNat<16777216):(valStep x c).toNat=x.toNat*256+c.toNat:=by
 have:=valStep_nat x c.toNat hx c.toBitVec.isLt
 rwa [UInt8.ofNat_toNat] at this
theorem val_num {l:List UInt8} (h:l.length=4):(val l).toNat=num l:=by
 obtain ⟨a,b,c,d,rfl⟩:=list4 h
 have ha:a.toNat<256:=a.toBitVec.isLt
 have hb:b.toNat<256:=b.toBitVec.isLt
 have hc:c.toNat<256:=c.toBitVec.isLt
 have h1:=valStep_u 0#32 a (by decide)
 have h1':(valStep 0#32 a).toNat=a.toNat:=by rw [h1]; simp
 have h2:=valStep_u (valStep 0#32 a) b (by omega)
 have h3:=valStep_u (valStep (valStep 0#32 a) b) c (by omega)
 have h4:=valStep_u (valStep (valStep (valStep 0#32 a) b) c) d (by omega)
 show (valStep (valStep (valStep (valStep 0#32 a) b) c) d).toNat=(((0*256+a.toNat)*256+b.toNat)*256+c.toNat)*256+d.toNat
 rw [h4,h3,h2,h1']; omega
theorem four8_big (r:BitVec 32):four8 r=bigB r.toNat 4:=by
 simp [four8,bigB]
theorem four8_val {l:List UInt8} (h:l.length=4):four8 (val l)=l:=by
 rw [four8_big,val_num h]
 have:=bigB_num l
 rwa [h] at this
theorem head_take {s:List UInt8} (h4:s.take 4=magic) (hl:16+nN s≤s.length):head (gN s) (bodyN s)=s.take (16+nN s):=by
 have hb:(bodyN s).length=nN s:=by unfold bodyN; simp; omega
 unfold head
 rw [hb]
 have e1:bigB (gN s) 8=(s.take 12).drop 4:=by
  have:=bigB_num ((s.take 12).drop 4)
  rwa [show ((s.take 12).drop 4).length=8 by simp; omega] at this
 have e2:bigB (nN s) 4=(s.take 16).drop 12:=by
  have:=bigB_num ((s.take 16).drop 12)
  rwa [show ((s.take 16).drop 12).length=4 by simp; omega] at this
 rw [e1,e2,←h4]
 unfold bodyN
 have p1:s.take (16+nN s)=s.take 16++(s.take (16+nN s)).drop 16:=by
  conv=>lhs; rw [←List.take_append_drop 16 (s.take (16+nN s)),List.take_take,Nat.min_eq_left (by omega)]
 have p2:s.take 16=s.take 12++(s.take 16).drop 12:=by
  conv=>lhs; rw [←List.take_append_drop 12 (s.take 16),List.take_take,Nat.min_eq_left (by omega)]
 have p3:s.take 12=s.take 4++(s.take 12).drop 4:=by
  conv=>lhs; rw [←List.take_append_drop 4 (s.take 12),List.take_take,Nat.min_eq_left (by omega)]
 conv=>rhs; rw [p1,p2,p3]
 simp only [List.append_assoc]
theorem sum_iff {s:List UInt8} (h4:s.take 4=magic) (hl:20+nN s≤s.length):frame (gN s) (bodyN s)=s.take (20+nN s)↔val ((s.take (20+nN s)).drop (16+nN s))=crc (s.take (16+nN s)):=by
 have hh:=head_take h4 (by omega)
 have ht:((s.take (20+nN s)).drop (16+nN s)).length=4:=by simp; omega
 have p:s.take (20+nN s)=s.take (16+nN s)++(s.take (20+nN s)).drop (16+nN s):=by
  conv=>lhs; rw [←List.take_append_drop (16+nN s) (s.take (20+nN s)),List.take_take,Nat.min_eq_left (by omega)]
 unfold frame
 rw [hh]
 constructor
 ·intro h
  have h2:=List.append_cancel_left (h.trans p)
  rw [←h2,val_four]
 ·intro h
  rw [←h,four8_val ht]
  exact p.symm
theorem take_cells (l:List UInt8) {a b:Nat} (_h:a≤b):((bc l).drop (mulE a 1)).take (mulE (b-a) 1)=bc ((l.take b).drop a):=by
 rw [aG,aG,Nat.mul_one,Nat.mul_one,bc_drop,bc_take,List.drop_take]
theorem u64_i64 {n:Nat} (h:n≤1152921504606846976):IntKind.i64.wrap (n:Int)=n:=wrap_i64 (by omega) (by omega)
def okG (x:Ext) (bs:List UInt8):Prop:=bs=[]∨x = .nn
theorem okX.g {x:Ext} {bs:List UInt8} (h:okX x bs):okG x bs:=by
 rcases h with h | h
 ·exact .inl h.2
 ·exact .inr h
theorem number_n {x:Ext} {bs:List UInt8} {n:Nat} (h:bs.length=n) (h8:n≤8):EP (EE env) 85 [.sl x n (bc bs)]=some (u64 (num bs)):=by
 subst h; exact number_ok x bs h8
theorem clone_n {bs:List UInt8} {n:Nat} (h:bs.length=n) (hl:n≤1000000):EP (EE env) 37 [.sl .nn n (bc bs)]=some (.sl (cx bs) bs.length (bc bs)):=by
 subst h; exact clone_nn bs hl
theorem of1_n {y x:Ext} {bs:List UInt8} {n:Nat} (h:bs.length=n) (hl:n≤1000000):EP (EE env) 76 [.sl y 1 [.sl x n (bc bs)]]=some (u32 (crc bs)):=by
 subst h; exact of1 y x bs (by rw [aS]; omega)
set_option maxHeartbeats 2000000 in
theorem get_ok (x:Ext) (s:List UInt8) (hx:okG x s) (hl:s.length≤1000000):EP (EE env) 55 [.sl x s.length (bc s)]=some (getV s):=by
 refine Has.eq (aE ?_)
 refine ah (fun h1=>?_) (fun h1=>?_)
 ·rw [getV_err (by unfold getM; rw [if_pos (by omega)]) (by decide)]
  exact Has.intro (Has.intro rfl)
 have hxn:x = .nn:=by
  rcases hx with h | h
  ·rw [h] at h1; simp at h1
  ·exact h
 subst hxn
 refine aa (by simp; omega) ?_
 refine a9 (bc (s.take 4)) (take_cells s (Nat.zero_le 4)) ?_
 have hs4:(s.take 4).length=4:=by simp; omega
 refine aa (by rw [be,hs4]; rfl) ?_
 refine bj (strOf_bc (s.take 4)) ?_
 refine aD (c:=decide (s.take 4≠magic)) (str_bne (s.take 4) magic) ?_
 by_cases h2:s.take 4≠magic
 ·rw [decide_eq_true h2,getV_err (by unfold getM; rw [if_neg (by omega),if_pos h2]) (by decide)]
  exact Has.intro (Has.intro rfl)
 rw [decide_eq_false h2]
 refine ah (fun h3=>?_) (fun h3=>?_)
 ·rw [getV_err (by unfold getM; rw [if_neg (by omega),if_neg h2,if_pos (by omega)]) (by decide)]
  exact Has.intro (Has.intro rfl)
 refine aa (by simp; omega) ?_
 refine aa (by simp) ?_
 refine a9 (bc ((s.take 12).drop 4)) (take_cells s (by decide)) ?_
 refine aj (number_n (by simp; omega) (by decide)) ?_
 refine aa (by simp; omega) ?_
 refine aa (by simp) ?_
 refine a9 (bc ((s.take 16).drop 12)) (take_cells s (by decide)) ?_
 refine aj (number_n (by simp; omega) (by decide)) ?_
 have h2':s.take 4=magic:=Classical.not_not.1 h2
 have hN:getM s=if gN s<1∨gN s>1152921504606846976 then (0,[],11) else if nN s>65536 then (0,[],15) else if s.length<20+nN s then (0,[],10)
  else if frame (gN s) (bodyN s)≠s.take (20+nN s) then (0,[],14) else (gN s,bodyN s,0):=by
  unfold getM; rw [if_neg (by omega),if_neg h2,if_neg (by omega)]
 have hG:num ((s.take 12).drop 4)=gN s:=rfl
 have hNN:num ((s.take 16).drop 12)=nN s:=rfl
 rw [hG,hNN]
 refine ah (fun h4=>?_) (fun h4=>?_)
 ·rw [getV_err (by rw [hN,if_pos (by omega)]) (by decide)]
  exact Has.intro (Has.intro rfl)
 refine ah (fun h5=>?_) (fun h5=>?_)
 ·rw [getV_err (by rw [hN,if_pos (by omega)]) (by decide)]
  exact Has.intro (Has.intro rfl)
 rw [if_neg (by omega)] at hN
 refine ah (fun h6=>?_) (fun h6=>?_)
 ·rw [getV_err (by rw [hN,if_pos (by omega)]) (by decide)]
  exact Has.intro (Has.intro rfl)
 rw [if_neg (by omega)] at hN
 refine a9 _ (u64_i64 (by omega)) ?_
 have hsz:=size_ok (nN s:Int)
 rw [if_pos (by omega)] at hsz
 refine aj hsz ?_
 refine ah (fun h7=>?_) (fun h7=>?_)
 ·rw [getV_err (by rw [hN,if_pos (by omega)]) (by decide)]
  exact Has.intro (Has.intro rfl)
 rw [if_neg (by omega)] at hN
 have hlen:20+nN s≤s.length:=by omega
 have hsum:=sum_iff h2' hlen
 refine a9 _ (u64_i64 (by omega)) ?_
 refine a9 ((16+nN s:Nat):Int) (by rw [wrap_i64 (by omega) (by omega)]; omega) ?_
 refine a9 ((20+nN s:Nat):Int) (by rw [wrap_i64 (by omega) (by omega)]; omega) ?_
 refine aa (by simp; omega) ?_
 refine aa (by simp; omega) ?_
 refine a9 (bc ((s.take (20+nN s)).drop (16+nN s))) (take_cells s (by simp; omega)) ?_
 have hT:((s.take (20+nN s)).drop (16+nN s)).length=4:=by simp; omega
 refine aa (by simp; omega) ?_
 refine ae (v:=bc ((s.take (20+nN s)).drop (16+nN s))) (by rw [List.drop_zero,List.take_of_length_le (by rw [be,hT]; exact Nat.le_refl 4)]) (by rw [be,hT]; exact Nat.le_refl 4) ?_
 refine aj (val_ok _ hT) ?_
 refine aa (by simp; omega) ?_
 refine a9 (bc (s.take (16+nN s))) (take_cells s (Nat.zero_le _)) ?_
 refine aj (of1_n (by simp; omega) (by simp; omega)) ?_
 refine aO (fun h8=>?_) (fun h8=>?_)
 ·rw [getV_err (by rw [hN,if_pos (fun h=>h8 (by rw [hsum.1 h]))]) (by decide)]
  exact Has.intro (Has.intro rfl)
 have h9:frame (gN s) (bodyN s)=s.take (20+nN s):=hsum.2 (BitVec.eq_of_toNat_eq (by omega))
 rw [if_neg (fun h=>h h9)] at hN
 refine a9 _ (u64_i64 (by omega)) ?_
 refine aa (by simp; omega) ?_
 refine aa (by simp; omega) ?_
 refine a9 (bc (bodyN s)) (take_cells s (by simp; omega)) ?_
 refine aj (clone_n (by unfold bodyN; simp; omega) (by simp; omega)) ?_
 rw [getV_ok hN]
 exact Has.intro (Has.intro rfl)
end Go.Proofs.YtflfdglnelbbiaaGreat.W
namespace Go.Proofs.YtflfdglnelbbiaaGreat.W
open Go Go.VM
def rgetV (s:List UInt8):PV:=.tup [.int .i64 (getM s).1,sv (getM s).2.1,.int .i64 (getM s).2.2]
theorem rgetV_of {s b:List UInt8} {g:Nat} {e:Int} (h:getM s=(g,b,e)):rgetV s = .tup [.int .i64 g,sv b,.int .i64 e]:=by unfold rgetV; rw [h]
set_option maxHeartbeats 2000000 in
theorem rget_ok (s:List UInt8) (hl:s.length≤100000):EP (EE env) 34 [sv s]=some (rgetV s):=by
 have hsz:=ay s
 refine Has.eq (aE ?_)
 refine ah (fun h1=>?_) (fun h1=>?_)
 ·rw [hsz] at h1
  rw [rgetV_of (show getM s=(0,[],10) by unfold getM; rw [if_pos (by omega)])]
  exact Has.intro (Has.intro rfl)
 rw [hsz] at h1
 refine aa (by rw [hsz]; simp; omega) ?_
 refine a9 (⟨(s.take 4).toArray⟩:ByteArray) (by rw [sv_extract]; simp) ?_
 refine aD (c:=decide (s.take 4≠magic)) (str_bne (s.take 4) magic) ?_
 by_cases h2:s.take 4≠magic
 ·rw [decide_eq_true h2,rgetV_of (show getM s=(0,[],11) by unfold getM; rw [if_neg (by omega),if_pos h2])]
  exact Has.intro (Has.intro rfl)
 rw [decide_eq_false h2]
 refine ah (fun h3=>?_) (fun h3=>?_)
 ·rw [hsz] at h3
  rw [rgetV_of (show getM s=(0,[],10) by unfold getM; rw [if_neg (by omega),if_neg h2,if_pos (by omega)])]
  exact Has.intro (Has.intro rfl)
 rw [hsz] at h3
 refine aa (by rw [hsz]; simp; omega) ?_
 refine aa (by simp) ?_
 refine a9 (⟨((s.take 12).drop 4).toArray⟩:ByteArray) (by rw [sv_extract]; rfl) ?_
 refine aj (rnumber_ok ((s.take 12).drop 4) (by simp; omega)) ?_
 refine aa (by rw [hsz]; simp; omega) ?_
 refine aa (by simp) ?_
 refine a9 (⟨((s.take 16).drop 12).toArray⟩:ByteArray) (by rw [sv_extract]; rfl) ?_
 refine aj (rnumber_ok ((s.take 16).drop 12) (by simp; omega)) ?_
 have h2':s.take 4=magic:=Classical.not_not.1 h2
 have hN:getM s=if gN s<1∨gN s>1152921504606846976 then (0,[],11) else if nN s>65536 then (0,[],15) else if s.length<20+nN s then (0,[],10)
  else if frame (gN s) (bodyN s)≠s.take (20+nN s) then (0,[],14) else (gN s,bodyN s,0):=by
  unfold getM; rw [if_neg (by omega),if_neg h2,if_neg (by omega)]
 have hG:num ((s.take 12).drop 4)=gN s:=rfl
 have hNN:num ((s.take 16).drop 12)=nN s:=rfl
 rw [hG,hNN]
 refine aP (fun h4=>?_) (fun h4=>?_)
 ·rw [rgetV_of (hN.trans (if_pos (by omega)))]
  exact Has.intro (Has.intro rfl)
 refine ah (fun h5=>?_) (fun h5=>?_)
 ·rw [rgetV_of (hN.trans (if_pos (by omega)))]
  exact Has.intro (Has.intro rfl)
 rw [if_neg (by omega)] at hN
 refine ah (fun h6=>?_) (fun h6=>?_)
 ·rw [rgetV_of (hN.trans (if_pos (by omega)))]
  exact Has.intro (Has.intro rfl)
 rw [if_neg (by omega)] at hN
 refine a9 ((s.length:Nat):Int) (by rw [hsz]; exact wrap_u64n (by omega)) ?_
 refine a9 ((nN s+20:Nat):Int) (by rw [show (nN s:Int)+20=((nN s+20:Nat):Int) by simp]; exact wrap_u64n (by omega)) ?_
 refine ah (fun h7=>?_) (fun h7=>?_)
 ·rw [rgetV_of (hN.trans (if_pos (by omega)))]
  exact Has.intro (Has.intro rfl)
 rw [if_neg (by omega)] at hN
 have hlen:20+nN s≤s.length:=by omega
 refine a9 _ (u64_i64 (by omega)) ?_
 refine a9 ((16+nN s:Nat):Int) (by rw [wrap_i64 (by omega) (by omega)]; omega) ?_
 refine aa (by rw [hsz]; simp; omega) ?_
 refine aa (by simp; omega) ?_
 refine a9 (⟨(bodyN s).toArray⟩:ByteArray) (by rw [sv_extract]; rfl) ?_
 refine a9 _ (u64_i64 (by omega)) ?_
 have hbl:(bodyN s).length≤100000:=by unfold bodyN; simp; omega
 refine aj (rput_ok (gN s) (by omega) (bodyN s) hbl) ?_
 refine a9 _ (u64_i64 (by omega)) ?_
 refine a9 ((20+nN s:Nat):Int) (by rw [wrap_i64 (by omega) (by omega)]; omega) ?_
 refine aa (by rw [hsz]; simp; omega) ?_
 refine a9 (⟨(s.take (20+nN s)).toArray⟩:ByteArray) (by rw [sv_extract,Int.toNat_natCast,List.drop_zero]) ?_
 refine aD (c:=decide (frame (gN s) (bodyN s)≠s.take (20+nN s))) (str_bne _ _) ?_
 by_cases h8:frame (gN s) (bodyN s)≠s.take (20+nN s)
 ·rw [decide_eq_true h8,rgetV_of (hN.trans (if_pos h8))]
  exact Has.intro (Has.intro rfl)
 rw [decide_eq_false h8]
 refine a9 _ (u64_i64 (by omega)) ?_
 rw [rgetV_of (hN.trans (if_neg h8))]
 exact Has.intro (Has.intro rfl)
theorem getM_le (s:List UInt8):(getM s).1≤1152921504606846976∧(getM s).2.1.length≤65536∧((getM s).2.2=0→1≤(getM s).1):=by
 unfold getM
 split
 ·exact ⟨by decide,by decide,fun h=>by cases h⟩
 split
 ·exact ⟨by decide,by decide,fun h=>by cases h⟩
 split
 ·exact ⟨by decide,by decide,fun h=>by cases h⟩
 split
 ·exact ⟨by decide,by decide,fun h=>by cases h⟩
 rename_i h1
 split
 ·exact ⟨by decide,by decide,fun h=>by cases h⟩
 rename_i h2
 split
 ·exact ⟨by decide,by decide,fun h=>by cases h⟩
 split
 ·exact ⟨by decide,by decide,fun h=>by cases h⟩
 ·refine ⟨by dsimp only; omega,?_,fun _=>by dsimp only; omega⟩
  dsimp only
  unfold bodyN; simp; omega
end Go.Proofs.YtflfdglnelbbiaaGreat.W
namespace Go.Proofs.YtflfdglnelbbiaaGreat.W
open Go Go.VM
theorem mid {A B C:List UInt8} {a b:Nat} (ha:A.length=a) (hb:a+B.length=b):((A++(B++C)).take b).drop a=B:=by
 subst ha; subst hb
 rw [List.take_length_add_append,List.drop_left,List.take_left]
theorem frame_get {g:Nat} {body:List UInt8} (h1:1≤g) (h2:g≤1152921504606846976) (hb:body.length≤65536) (rest:List UInt8):getM (frame g body++rest)=(g,body,0):=by
 have hs:frame g body++rest=magic++(bigB g 8++(bigB body.length 4++(body++(four8 (crc (head g body))++rest)))):=by
  simp only [frame,head,List.append_assoc]
 have hfl:=frame_len g body
 have hlen:(frame g body++rest).length=20+body.length+rest.length:=by rw [List.length_append,hfl]
 have m4:(frame g body++rest).take 4=magic:=by rw [hs]; rfl
 have e1:gN (frame g body++rest)=g:=by
  unfold gN
  rw [hs,mid (a:=4) (b:=12) rfl (by rw [bigB_len]),num_bigB]
  exact Nat.mod_eq_of_lt (Nat.lt_of_le_of_lt h2 (by decide))
 have e2:nN (frame g body++rest)=body.length:=by
  unfold nN
  rw [hs,←List.append_assoc magic,mid (a:=12) (b:=16) (by rw [List.length_append,bigB_len]; rfl) (by rw [bigB_len]),num_bigB]
  exact Nat.mod_eq_of_lt (Nat.lt_of_le_of_lt hb (by decide))
 have e3:bodyN (frame g body++rest)=body:=by
  unfold bodyN
  rw [e2,hs,←List.append_assoc magic,←List.append_assoc (magic++bigB g 8)]
  exact mid (by rw [List.length_append,List.length_append,bigB_len,bigB_len]; rfl) rfl
 have e4:(frame g body++rest).take (20+body.length)=frame g body:=by
  rw [←hfl,List.take_left]
 unfold getM
 rw [if_neg (by omega),if_neg (fun h=>h m4),if_neg (by omega),e1,e2,e3,e4,if_neg (by omega),if_neg (by omega),if_neg (by omega),if_neg (fun h=>h rfl)]
end Go.Proofs.YtflfdglnelbbiaaGreat.W
