/-
  What the program's functions on sums of bytes compute.
-/
import Derived.Test.YtgfedlikbaailaaVmC
import Derived.Test.YtgfedlikbaailaaV10
set_option linter.all false
set_option linter.unusedVariables false
set_option linter.unusedSimpArgs false
set_option linter.unusedSectionVars false
namespace Go.Proofs.Ytgfedlikbaailaa
open Go Go.VM

def u32 (r : BitVec 32) : PV := .int .u32 r.toNat
def bit (r : BitVec 32) : BitVec 32 := (r >>> 1) ^^^ (0xedb88320#32 &&& -(r &&& 1#32))
def bits : Nat → BitVec 32 → BitVec 32
  | 0, r => r
  | n + 1, r => bit (bits n r)
def byte (r : BitVec 32) (b : UInt8) : BitVec 32 := bits 8 (r ^^^ BitVec.ofNat 32 b.toNat)
def sum (r : BitVec 32) (bs : List UInt8) : BitVec 32 := bs.foldl byte r
def row (p : Ext × List UInt8) : PV := .sl p.1 p.2.length (bc p.2)

theorem new_ok (H : Heap) : EE env (.fn 16) [] H = some (.ptr H.length 0, H ++ [.pcells [u32 0xffffffff#32]]) := EE_intro rfl

theorem add_ok (H : Heap) (id : Nat) (r : BitVec 32) (h : hget H id = .pcells [u32 r]) (x : Ext) (n : Nat) (rows : List (Ext × List UInt8)) (hn : rows.length = n) (hmax : n ≤ maxLen) (hlen : ∀ p ∈ rows, p.2.length ≤ maxLen) :
    EE env (.fn 10) [.ptr id 0, .pv (.sl x n (rows.map row))] H = some (.pv (.tup []), hset H id (.pcells [u32 (sum r (rows.map (·.2)).flatten)])) := by
  subst hn
  rw [maxLen_eq] at hmax
  have hid : id < H.length := lt_of_hget (by rw [h]; exact fun e => by cases e)
  refine Has.eq (EE_has ?_)
  refine loopK_has ?_
  refine iterE_up rows.length (fun i => [(0, .ptr id 0), (10, .pv (.sl x rows.length (rows.map row))), (11, .pv (.int .i64 rows.length)), (12, .pv (.int .i64 i))])
    (fun i => hset H id (.pcells [u32 (sum r ((rows.take i).map (·.2)).flatten)])) (fun i hi r1 => ?_) (fun r1 => ?_) ⟨rfl, rfl, rfl, rfl, trivial⟩ (hset_self h).symm
  · refine boolK_has_true (decide_eq_true (by omega)) ?_
    refine needK_has (by simp [hi]) ?_
    obtain ⟨p, hp⟩ : ∃ p, rows[i]? = some p := ⟨rows[i], List.getElem?_eq_getElem hi⟩
    refine getK_has (show (rows.map row)[i]? = some (row p) by simp [hp]) ?_
    refine loopK_has ?_
    refine iterE_up p.2.length (fun j => [(0, .ptr id 0), (10, .pv (.sl x rows.length (rows.map row))), (11, .pv (.int .i64 rows.length)), (12, .pv (.int .i64 i)), (16, .pv (row p)), (17, .pv (.int .i64 p.2.length)), (18, .pv (.int .i64 j))])
      (fun j => hset H id (.pcells [u32 (sum (sum r ((rows.take i).map (·.2)).flatten) (p.2.take j))])) (fun j hj r2 => ?_) (fun r2 => ?_) ⟨rfl, rfl, rfl, rfl, rfl, rfl, rfl, trivial⟩ rfl
    · refine boolK_has_true (decide_eq_true (by omega)) ?_
      refine needK_has (by simp [hj]) ?_
      obtain ⟨b, hb⟩ : ∃ b, p.2[j]? = some b := ⟨p.2[j], List.getElem?_eq_getElem hj⟩
      refine getK_has (bc_get hb) ?_
      refine hgetK_hset hid ?_
      refine getK_has rfl ?_
      refine eqK_has_eq _ (show _ = ((BitVec.ofNat 32 b.toNat).toNat : Int) from ?_) ?_
      · exact wrap_u8 b
      refine eqK_has_eq _ (u32_xor _ _) ?_
      refine hgetK_hset hid ?_
      refine needK_has rfl ?_
      refine eqK_has ?_
      refine loopK_has ?_
      refine iterE_up 8 (fun k => [(0, .ptr id 0), (10, .pv (.sl x rows.length (rows.map row))), (11, .pv (.int .i64 rows.length)), (12, .pv (.int .i64 i)), (16, .pv (row p)), (17, .pv (.int .i64 p.2.length)), (18, .pv (.int .i64 j)), (31, .pv (.int .i64 k))])
        (fun k => hset H id (.pcells [u32 (bits k (sum (sum r ((rows.take i).map (·.2)).flatten) (p.2.take j) ^^^ BitVec.ofNat 32 b.toNat))])) (fun k hk r3 => ?_) (fun r3 => ?_) ⟨rfl, rfl, rfl, rfl, rfl, rfl, rfl, rfl, trivial⟩ (hset_hset _ _ _ _)
      · refine boolK_has_true (decide_eq_true (by omega)) ?_
        refine hgetK_hset hid ?_
        refine getK_has rfl ?_
        refine needK_has rfl ?_
        refine eqK_has_eq _ (u32_shr1 _) ?_
        refine hgetK_hset hid ?_
        refine getK_has rfl ?_
        refine eqK_has_eq _ (u32_and _ 1#32) ?_
        refine eqK_has_eq _ (u32_neg _) ?_
        refine eqK_has_eq _ (u32_and 3988292384#32 _) ?_
        refine eqK_has_eq _ (u32_xor _ _) ?_
        refine hgetK_hset hid ?_
        refine needK_has rfl ?_
        refine eqK_has ?_
        refine eqK_has_eq _ (i64_succ (by omega)) ?_
        exact Has.intro ⟨⟨rfl, rfl, rfl, rfl, rfl, rfl, rfl, rfl, trivial⟩, hset_hset _ _ _ _⟩
      · refine boolK_has_false (decide_eq_false (by omega)) ?_
        refine Has.intro ?_
        refine eqK_has_eq _ (i64_succ (by have := hlen p (List.mem_of_getElem? hp); rw [maxLen_eq] at this; omega)) ?_
        refine Has.intro ⟨⟨rfl, rfl, rfl, rfl, rfl, rfl, rfl, trivial⟩, ?_⟩
        show hset H id (.pcells [u32 (byte _ b)]) = _
        unfold sum; rw [take_foldl hb]
    · refine boolK_has_false (decide_eq_false (by omega)) ?_
      refine Has.intro ?_
      refine eqK_has_eq _ (i64_succ (by omega)) ?_
      refine Has.intro ⟨⟨rfl, rfl, rfl, rfl, trivial⟩, ?_⟩
      show hset H id (.pcells [u32 (sum _ (p.2.take p.2.length))]) = _
      rw [List.take_length, List.take_add_one, hp]
      simp [sum]
  · refine boolK_has_false (decide_eq_false (by omega)) ?_
    refine Has.intro ?_
    refine Has.intro ?_
    show (_, hset H id (.pcells [u32 (sum r ((rows.take rows.length).map (·.2)).flatten)])) = _
    rw [List.take_length]; rfl


theorem u32_not (r : BitVec 32) : IntKind.u32.wrap ((BitVec.ofInt IntKind.u32.bits (if IntKind.u32.signed then -1 else IntKind.u32.max) ^^^ BitVec.ofInt IntKind.u32.bits (r.toNat : Int)).toNat : Int) = ((~~~r).toNat : Int) := by
  show IntKind.u32.wrap ((BitVec.allOnes 32 ^^^ BitVec.ofInt 32 (r.toNat : Int)).toNat : Int) = _
  rw [ofInt_toNat, BitVec.allOnes_xor, wrap_u32 (~~~r).isLt]

theorem value_ok (H : Heap) (id : Nat) (r : BitVec 32) (h : hget H id = .pcells [u32 r]) : EE env (.fn 14) [.ptr id 0] H = some (.pv (u32 (~~~r)), H) := by
  refine Has.eq (EE_has ?_)
  refine hgetK_has _ h ?_
  refine getK_has rfl ?_
  refine eqK_has_eq _ (u32_not r) ?_
  exact Has.intro rfl

/-- The sum of rows of bytes. -/
def crc (bs : List UInt8) : BitVec 32 := ~~~(sum 0xffffffff#32 bs)

theorem of_ok (x : Ext) (n : Nat) (rows : List (Ext × List UInt8)) (hn : rows.length = n) (hmax : n ≤ maxLen) (hlen : ∀ p ∈ rows, p.2.length ≤ maxLen) :
    EP (EE env) 8 [.sl x n (rows.map row)] = some (u32 (crc (rows.map (·.2)).flatten)) := by
  refine Has.eq (EP_has ?_)
  refine callSK_has (new_ok []) ?_
  refine callSK_has (add_ok _ 0 _ rfl x n rows hn hmax hlen) ?_
  refine callSK_has (value_ok _ 0 _ rfl) ?_
  exact Has.intro (Has.intro rfl)

theorem of1 (y x : Ext) (bs : List UInt8) (h : bs.length ≤ maxLen) : EP (EE env) 8 [.sl y 1 [.sl x bs.length (bc bs)]] = some (u32 (crc bs)) := by
  have := of_ok y 1 [(x, bs)] rfl (by decide) (by simpa using h)
  simpa [row] using this

/-- The four bytes of a sum. -/
def four (r : BitVec 32) : List PV := [.int .u8 ((r.toNat / 16777216 % 256 : Nat) : Int), .int .u8 ((r.toNat / 65536 % 256 : Nat) : Int), .int .u8 ((r.toNat / 256 % 256 : Nat) : Int), .int .u8 ((r.toNat % 256 : Nat) : Int)]

theorem wrap_u8_mod (n : Nat) : IntKind.u8.wrap (n : Int) = ((n % 256 : Nat) : Int) := by
  unfold IntKind.wrap; simp only [IntKind.bits, IntKind.signed, Bool.false_and]
  simp
theorem shr_nat (n k : Nat) (hk : k ≤ 32) : (n : Int).fdiv (2 ^ (min ((k : Int)).toNat IntKind.u32.bits)) = ((n / 2 ^ k : Nat) : Int) := by
  rw [Int.fdiv_eq_ediv_of_nonneg _ (by exact Int.le_of_lt (Int.pow_pos (by decide)))]
  have : min ((k : Int)).toNat IntKind.u32.bits = k := by simp [IntKind.bits]; omega
  rw [this]
  simp

theorem bytes_ok (r : BitVec 32) : EP (EE env) 9 [u32 r] = some (.agg (four r)) := by
  refine Has.eq (EP_has ?_)
  refine needK_has rfl ?_
  refine eqK_has_eq _ (shr_nat r.toNat 24 (by decide)) ?_
  refine eqK_has_eq _ (wrap_u8_mod _) ?_
  refine needK_has rfl ?_
  refine eqK_has_eq _ (shr_nat r.toNat 16 (by decide)) ?_
  refine eqK_has_eq _ (wrap_u8_mod _) ?_
  refine needK_has rfl ?_
  refine eqK_has_eq _ (shr_nat r.toNat 8 (by decide)) ?_
  refine eqK_has_eq _ (wrap_u8_mod _) ?_
  refine eqK_has_eq _ (wrap_u8_mod _) ?_
  refine hgetK_has _ rfl ?_
  refine needK_has rfl ?_
  refine eqK_has ?_
  refine hgetK_has _ rfl ?_
  refine secK_has rfl (Nat.le_refl 4) ?_
  exact Has.intro (Has.intro rfl)

/-- Bytes laid one behind the other, as a number. -/
def valStep (r : BitVec 32) (b : UInt8) : BitVec 32 := (r <<< 8) ||| BitVec.ofNat 32 b.toNat
def val (bs : List UInt8) : BitVec 32 := bs.foldl valStep 0#32
theorem u32_shl8 (r : BitVec 32) : IntKind.u32.wrap ((r.toNat : Int) * 2 ^ (min (8 : Int).toNat IntKind.u32.bits)) = ((r <<< 8).toNat : Int) := by
  rw [BitVec.toNat_shiftLeft, Nat.shiftLeft_eq]
  unfold IntKind.wrap; simp only [IntKind.bits, IntKind.signed, Bool.false_and]
  simp
theorem u32_or (a b : BitVec 32) : IntKind.u32.wrap ((BitVec.ofInt IntKind.u32.bits (a.toNat : Int) ||| BitVec.ofInt IntKind.u32.bits (b.toNat : Int)).toNat : Int) = ((a ||| b).toNat : Int) := by
  show IntKind.u32.wrap ((BitVec.ofInt 32 (a.toNat : Int) ||| BitVec.ofInt 32 (b.toNat : Int)).toNat : Int) = _
  rw [ofInt_toNat, ofInt_toNat, wrap_u32 (a ||| b).isLt]
theorem val_ok (bs : List UInt8) (h4 : bs.length = 4) : EP (EE env) 13 [.agg (bc bs)] = some (u32 (val bs)) := by
  refine Has.eq (EP_has ?_)
  refine hgetK_has _ rfl ?_
  refine secK_has (v := bc bs) (List.take_of_length_le (by simp [bc, h4])) (by simp [bc, h4]) ?_
  refine loopK_has ?_
  refine iterE_up 4 (fun i => [(6, .pv (.agg (bc bs))), (3, .pv (u32 ((bs.take i).foldl valStep 0#32))), (7, .pv (.int .i64 i))]) (fun _ => [.pcells (bc bs)]) (fun i hi r => ?_) (fun r => ?_) ⟨rfl, rfl, rfl, trivial⟩ rfl
  · refine boolK_has_true (decide_eq_true (by omega)) ?_
    refine needK_has (by simp; omega) ?_
    obtain ⟨b, hb⟩ : ∃ b, bs[i]? = some b := ⟨bs[i], List.getElem?_eq_getElem (by omega)⟩
    refine getK_has (bc_get hb) ?_
    refine needK_has rfl ?_
    refine eqK_has_eq _ (u32_shl8 _) ?_
    refine eqK_has_eq _ (wrap_u8 b) ?_
    refine eqK_has_eq _ (u32_or _ _) ?_
    refine eqK_has_eq _ (i64_succ (by omega)) ?_
    exact Has.intro ⟨⟨rfl, by rw [take_foldl hb]; rfl, rfl, trivial⟩, rfl⟩
  · refine boolK_has_false (decide_eq_false (by omega)) ?_
    refine Has.intro ?_
    refine Has.intro (Has.intro ?_)
    show u32 ((bs.take 4).foldl valStep 0#32) = _
    rw [List.take_of_length_le (by omega)]; rfl

theorem crc_nine : sum 0xffffffff#32 [49, 50, 51, 52, 53, 54, 55, 56, 57] = 0x340bc6d9#32 := by decide +kernel
theorem crc_nine' : sum 0xffffffff#32 [] = 0xffffffff#32 := rfl
theorem of_nine (y x : Ext) : EP (EE env) 8 [.sl y 1 [.sl x 9 [.int .u8 49, .int .u8 50, .int .u8 51, .int .u8 52, .int .u8 53, .int .u8 54, .int .u8 55, .int .u8 56, .int .u8 57]]] = some (.int .u32 3421780262) := by
  have := of1 y x [49, 50, 51, 52, 53, 54, 55, 56, 57] (by decide)
  rw [crc, crc_nine] at this; exact this
theorem of_none : EP (EE env) 8 [.sl .nil 0 []] = some (.int .u32 0) := of_ok .nil 0 [] rfl (by decide) (by simp)
theorem add_nine (x y z : Ext) (rest : Heap) : EE env (.fn 10) [.ptr 0 0, .pv (.sl x 2 [.sl y 4 [.int .u8 49, .int .u8 50, .int .u8 51, .int .u8 52], .sl z 5 [.int .u8 53, .int .u8 54, .int .u8 55, .int .u8 56, .int .u8 57]])] (.pcells [.int .u32 4294967295] :: rest) = some (.pv (.tup []), .pcells [.int .u32 873187033] :: rest) := by
  have := add_ok (.pcells [u32 0xffffffff#32] :: rest) 0 _ rfl x 2 [(y, [49, 50, 51, 52]), (z, [53, 54, 55, 56, 57])] rfl (by decide) (by simp [maxLen_eq])
  have e : sum 0xffffffff#32 (List.map (fun x : Ext × List UInt8 => x.snd) [(y, [49, 50, 51, 52]), (z, [53, 54, 55, 56, 57])]).flatten = 0x340bc6d9#32 := crc_nine
  rw [e] at this; exact this
theorem value_nine (rest : Heap) : EE env (.fn 14) [.ptr 0 0] (.pcells [.int .u32 873187033] :: rest) = some (.pv (.int .u32 3421780262), .pcells [.int .u32 873187033] :: rest) := value_ok _ 0 0x340bc6d9#32 rfl
theorem bytes_lit : EP (EE env) 9 [.int .u32 16909060] = some (.agg [.int .u8 1, .int .u8 2, .int .u8 3, .int .u8 4]) := bytes_ok 0x01020304#32
theorem val_lit : EP (EE env) 13 [.agg [.int .u8 1, .int .u8 2, .int .u8 3, .int .u8 4]] = some (.int .u32 16909060) := val_ok [1, 2, 3, 4] rfl
theorem new_nil : EE env (.fn 16) [] [] = some (.ptr 0 0, [.pcells [.int .u32 4294967295]]) := new_ok []


theorem first_ok : EP (EE env) 7 [] = some (.bool true) := by
  refine Has.eq (EP_has ?_)
  refine callSK_has new_nil ?_
  refine hgetK_has _ rfl ?_
  refine needK_has rfl ?_
  refine hgetK_has _ rfl ?_
  refine needK_has rfl ?_
  refine callSK_has (add_nine _ _ _ _) ?_
  refine hgetK_has _ rfl ?_
  refine needK_has rfl ?_
  refine callPK_has (of_nine _ _) ?_
  refine boolK_has_true (by decide) ?_
  refine callSK_has (value_nine _) ?_
  refine boolK_has_true (by decide) ?_
  refine callPK_has of_none ?_
  refine boolK_has_true (by decide) ?_
  refine callPK_has bytes_lit ?_
  refine bindK_has (v := true) rfl ?_
  refine boolK_has_true rfl ?_
  refine callPK_has val_lit ?_
  refine boolK_has_true (by decide) ?_
  exact Has.intro (Has.intro rfl)
end Go.Proofs.Ytgfedlikbaailaa
