/-
  Part 2 of the functions and the law.
  What the program's functions on sums of bytes compute.
  The sum of rows that are laid over one another is that of their sums; and turned bytes turn it.
  The document's sum: a register of bits.
  CrcSums, in the abstract machine.
  Numbers in bytes.
  Rows, joined; clones.
  Frames.
  Clones, and torn slots.
  What a slot has.
  What a frame's bytes have.
  Disks: what is known of one; the functions that change little.
  A disk's Write.
-/
import Derived.Test.YtflfdglnelbbiaaP1
import Derived.Test.YtflfdglnelbbiaaV9
set_option linter.all false
set_option linter.unusedVariables false
set_option linter.unusedSimpArgs false
set_option linter.unusedSectionVars false
namespace Go.Proofs.Ytflfdglnelbbiaa.W
open Go Go.VM

def u32 (r : BitVec 32) : PV := .int .u32 r.toNat
def bit (r : BitVec 32) : BitVec 32 := (r >>> 1) ^^^ (0xedb88320#32 &&& -(r &&& 1#32))
def bits : Nat → BitVec 32 → BitVec 32
  | 0, r => r
  | n + 1, r => bit (bits n r)
def byte (r : BitVec 32) (b : UInt8) : BitVec 32 := bits 8 (r ^^^ BitVec.ofNat 32 b.toNat)
def sum (r : BitVec 32) (bs : List UInt8) : BitVec 32 := bs.foldl byte r
def row (p : Ext × List UInt8) : PV := .sl p.1 p.2.length (bc p.2)

theorem new_ok (H : Heap) : EE env (.fn 62) [] H = some (.ptr H.length 0, H ++ [.pcells [u32 0xffffffff#32]]) := EE_intro rfl

theorem add_ok (H : Heap) (id : Nat) (r : BitVec 32) (h : hget H id = .pcells [u32 r]) (x : Ext) (n : Nat) (rows : List (Ext × List UInt8)) (hn : rows.length = n) (hmax : n ≤ maxLen) (hlen : ∀ p ∈ rows, p.2.length ≤ maxLen) :
    EE env (.fn 63) [.ptr id 0, .pv (.sl x n (rows.map row))] H = some (.pv (.tup []), hset H id (.pcells [u32 (sum r (rows.map (·.2)).flatten)])) := by
  subst hn
  rw [maxLen_eq] at hmax
  have hid : id < H.length := lt_of_hget (by rw [h]; exact fun e => by cases e)
  refine Has.eq (EE_has ?_)
  refine loopK_has ?_
  refine iterE_up rows.length (fun i => [(0, .ptr id 0), (10, .pv (.sl x rows.length (rows.map row))), (11, .pv (.int .i64 rows.length)), (12, .pv (.int .i64 i))])
    (fun i => hset H id (.pcells [u32 (sum r ((rows.take i).map (·.2)).flatten)])) (fun i hi r1 => ?_) (fun r1 => ?_) ⟨rfl, rfl, rfl, rfl, trivial⟩ (hset_self h).symm
  · refine boolK_has_true (decide_eq_true (by omega)) ?_
    refine needK_has (by simp [hi]) ?_
    obtain ⟨p, hp⟩ : ∃ p, rows[i]? = some p := ⟨rows[i], List.getElem?_eq_getElem hi⟩
    refine getK_has (show (rows.map row)[i]? = some (row p) by simp [hp]) ?_
    refine loopK_has ?_
    refine iterE_up p.2.length (fun j => [(0, .ptr id 0), (10, .pv (.sl x rows.length (rows.map row))), (11, .pv (.int .i64 rows.length)), (12, .pv (.int .i64 i)), (16, .pv (row p)), (17, .pv (.int .i64 p.2.length)), (18, .pv (.int .i64 j))])
      (fun j => hset H id (.pcells [u32 (sum (sum r ((rows.take i).map (·.2)).flatten) (p.2.take j))])) (fun j hj r2 => ?_) (fun r2 => ?_) ⟨rfl, rfl, rfl, rfl, rfl, rfl, rfl, trivial⟩ rfl
    · refine boolK_has_true (decide_eq_true (by omega)) ?_
      refine needK_has (by simp [hj]) ?_
      obtain ⟨b, hb⟩ : ∃ b, p.2[j]? = some b := ⟨p.2[j], List.getElem?_eq_getElem hj⟩
      refine getK_has (bc_get hb) ?_
      refine hgetK_hset hid ?_
      refine getK_has rfl ?_
      refine eqK_has_eq _ (show _ = ((BitVec.ofNat 32 b.toNat).toNat : Int) from ?_) ?_
      · exact wrap_u8 b
      refine eqK_has_eq _ (u32_xor _ _) ?_
      refine hgetK_hset hid ?_
      refine needK_has rfl ?_
      refine eqK_has ?_
      refine loopK_has ?_
      refine iterE_up 8 (fun k => [(0, .ptr id 0), (10, .pv (.sl x rows.length (rows.map row))), (11, .pv (.int .i64 rows.length)), (12, .pv (.int .i64 i)), (16, .pv (row p)), (17, .pv (.int .i64 p.2.length)), (18, .pv (.int .i64 j)), (31, .pv (.int .i64 k))])
        (fun k => hset H id (.pcells [u32 (bits k (sum (sum r ((rows.take i).map (·.2)).flatten) (p.2.take j) ^^^ BitVec.ofNat 32 b.toNat))])) (fun k hk r3 => ?_) (fun r3 => ?_) ⟨rfl, rfl, rfl, rfl, rfl, rfl, rfl, rfl, trivial⟩ (hset_hset _ _ _ _)
      · refine boolK_has_true (decide_eq_true (by omega)) ?_
        refine hgetK_hset hid ?_
        refine getK_has rfl ?_
        refine needK_has rfl ?_
        refine eqK_has_eq _ (u32_shr1 _) ?_
        refine hgetK_hset hid ?_
        refine getK_has rfl ?_
        refine eqK_has_eq _ (u32_and _ 1#32) ?_
        refine eqK_has_eq _ (u32_neg _) ?_
        refine eqK_has_eq _ (u32_and 3988292384#32 _) ?_
        refine eqK_has_eq _ (u32_xor _ _) ?_
        refine hgetK_hset hid ?_
        refine needK_has rfl ?_
        refine eqK_has ?_
        refine eqK_has_eq _ (i64_succ (by omega)) ?_
        exact Has.intro ⟨⟨rfl, rfl, rfl, rfl, rfl, rfl, rfl, rfl, trivial⟩, hset_hset _ _ _ _⟩
      · refine boolK_has_false (decide_eq_false (by omega)) ?_
        refine Has.intro ?_
        refine eqK_has_eq _ (i64_succ (by have := hlen p (List.mem_of_getElem? hp); rw [maxLen_eq] at this; omega)) ?_
        refine Has.intro ⟨⟨rfl, rfl, rfl, rfl, rfl, rfl, rfl, trivial⟩, ?_⟩
        show hset H id (.pcells [u32 (byte _ b)]) = _
        unfold sum; rw [take_foldl hb]
    · refine boolK_has_false (decide_eq_false (by omega)) ?_
      refine Has.intro ?_
      refine eqK_has_eq _ (i64_succ (by omega)) ?_
      refine Has.intro ⟨⟨rfl, rfl, rfl, rfl, trivial⟩, ?_⟩
      show hset H id (.pcells [u32 (sum _ (p.2.take p.2.length))]) = _
      rw [List.take_length, List.take_add_one, hp]
      simp [sum]
  · refine boolK_has_false (decide_eq_false (by omega)) ?_
    refine Has.intro ?_
    refine Has.intro ?_
    show (_, hset H id (.pcells [u32 (sum r ((rows.take rows.length).map (·.2)).flatten)])) = _
    rw [List.take_length]; rfl


theorem u32_not (r : BitVec 32) : IntKind.u32.wrap ((BitVec.ofInt IntKind.u32.bits (if IntKind.u32.signed then -1 else IntKind.u32.max) ^^^ BitVec.ofInt IntKind.u32.bits (r.toNat : Int)).toNat : Int) = ((~~~r).toNat : Int) := by
  show IntKind.u32.wrap ((BitVec.allOnes 32 ^^^ BitVec.ofInt 32 (r.toNat : Int)).toNat : Int) = _
  rw [ofInt_toNat, BitVec.allOnes_xor, wrap_u32 (~~~r).isLt]

theorem value_ok (H : Heap) (id : Nat) (r : BitVec 32) (h : hget H id = .pcells [u32 r]) : EE env (.fn 64) [.ptr id 0] H = some (.pv (u32 (~~~r)), H) := by
  refine Has.eq (EE_has ?_)
  refine hgetK_has _ h ?_
  refine getK_has rfl ?_
  refine eqK_has_eq _ (u32_not r) ?_
  exact Has.intro rfl

/-- The sum of rows of bytes. -/
def crc (bs : List UInt8) : BitVec 32 := ~~~(sum 0xffffffff#32 bs)

theorem of_ok (x : Ext) (n : Nat) (rows : List (Ext × List UInt8)) (hn : rows.length = n) (hmax : n ≤ maxLen) (hlen : ∀ p ∈ rows, p.2.length ≤ maxLen) :
    EP (EE env) 48 [.sl x n (rows.map row)] = some (u32 (crc (rows.map (·.2)).flatten)) := by
  refine Has.eq (EP_has ?_)
  refine callSK_has (new_ok []) ?_
  refine callSK_has (add_ok _ 0 _ rfl x n rows hn hmax hlen) ?_
  refine callSK_has (value_ok _ 0 _ rfl) ?_
  exact Has.intro (Has.intro rfl)

theorem of1 (y x : Ext) (bs : List UInt8) (h : bs.length ≤ maxLen) : EP (EE env) 48 [.sl y 1 [.sl x bs.length (bc bs)]] = some (u32 (crc bs)) := by
  have := of_ok y 1 [(x, bs)] rfl (by decide) (by simpa using h)
  simpa [row] using this

/-- The four bytes of a sum. -/
def four (r : BitVec 32) : List PV := [.int .u8 ((r.toNat / 16777216 % 256 : Nat) : Int), .int .u8 ((r.toNat / 65536 % 256 : Nat) : Int), .int .u8 ((r.toNat / 256 % 256 : Nat) : Int), .int .u8 ((r.toNat % 256 : Nat) : Int)]

theorem wrap_u8_mod (n : Nat) : IntKind.u8.wrap (n : Int) = ((n % 256 : Nat) : Int) := by
  unfold IntKind.wrap; simp only [IntKind.bits, IntKind.signed, Bool.false_and]
  simp
theorem shr_nat (n k : Nat) (hk : k ≤ 32) : (n : Int).fdiv (2 ^ (min ((k : Int)).toNat IntKind.u32.bits)) = ((n / 2 ^ k : Nat) : Int) := by
  rw [Int.fdiv_eq_ediv_of_nonneg _ (by exact Int.le_of_lt (Int.pow_pos (by decide)))]
  have : min ((k : Int)).toNat IntKind.u32.bits = k := by simp [IntKind.bits]; omega
  rw [this]
  simp

theorem bytes_ok (r : BitVec 32) : EP (EE env) 47 [u32 r] = some (.agg (four r)) := by
  refine Has.eq (EP_has ?_)
  refine needK_has rfl ?_
  refine eqK_has_eq _ (shr_nat r.toNat 24 (by decide)) ?_
  refine eqK_has_eq _ (wrap_u8_mod _) ?_
  refine needK_has rfl ?_
  refine eqK_has_eq _ (shr_nat r.toNat 16 (by decide)) ?_
  refine eqK_has_eq _ (wrap_u8_mod _) ?_
  refine needK_has rfl ?_
  refine eqK_has_eq _ (shr_nat r.toNat 8 (by decide)) ?_
  refine eqK_has_eq _ (wrap_u8_mod _) ?_
  refine eqK_has_eq _ (wrap_u8_mod _) ?_
  refine hgetK_has _ rfl ?_
  refine needK_has rfl ?_
  refine eqK_has ?_
  refine hgetK_has _ rfl ?_
  refine secK_has rfl (Nat.le_refl 4) ?_
  exact Has.intro (Has.intro rfl)

/-- Bytes laid one behind the other, as a number. -/
def valStep (r : BitVec 32) (b : UInt8) : BitVec 32 := (r <<< 8) ||| BitVec.ofNat 32 b.toNat
def val (bs : List UInt8) : BitVec 32 := bs.foldl valStep 0#32
theorem u32_shl8 (r : BitVec 32) : IntKind.u32.wrap ((r.toNat : Int) * 2 ^ (min (8 : Int).toNat IntKind.u32.bits)) = ((r <<< 8).toNat : Int) := by
  rw [BitVec.toNat_shiftLeft, Nat.shiftLeft_eq]
  unfold IntKind.wrap; simp only [IntKind.bits, IntKind.signed, Bool.false_and]
  simp
theorem u32_or (a b : BitVec 32) : IntKind.u32.wrap ((BitVec.ofInt IntKind.u32.bits (a.toNat : Int) ||| BitVec.ofInt IntKind.u32.bits (b.toNat : Int)).toNat : Int) = ((a ||| b).toNat : Int) := by
  show IntKind.u32.wrap ((BitVec.ofInt 32 (a.toNat : Int) ||| BitVec.ofInt 32 (b.toNat : Int)).toNat : Int) = _
  rw [ofInt_toNat, ofInt_toNat, wrap_u32 (a ||| b).isLt]
theorem val_ok (bs : List UInt8) (h4 : bs.length = 4) : EP (EE env) 50 [.agg (bc bs)] = some (u32 (val bs)) := by
  refine Has.eq (EP_has ?_)
  refine hgetK_has _ rfl ?_
  refine secK_has (v := bc bs) (List.take_of_length_le (by simp [bc, h4])) (by simp [bc, h4]) ?_
  refine loopK_has ?_
  refine iterE_up 4 (fun i => [(6, .pv (.agg (bc bs))), (3, .pv (u32 ((bs.take i).foldl valStep 0#32))), (7, .pv (.int .i64 i))]) (fun _ => [.pcells (bc bs)]) (fun i hi r => ?_) (fun r => ?_) ⟨rfl, rfl, rfl, trivial⟩ rfl
  · refine boolK_has_true (decide_eq_true (by omega)) ?_
    refine needK_has (by simp; omega) ?_
    obtain ⟨b, hb⟩ : ∃ b, bs[i]? = some b := ⟨bs[i], List.getElem?_eq_getElem (by omega)⟩
    refine getK_has (bc_get hb) ?_
    refine needK_has rfl ?_
    refine eqK_has_eq _ (u32_shl8 _) ?_
    refine eqK_has_eq _ (wrap_u8 b) ?_
    refine eqK_has_eq _ (u32_or _ _) ?_
    refine eqK_has_eq _ (i64_succ (by omega)) ?_
    exact Has.intro ⟨⟨rfl, by rw [take_foldl hb]; rfl, rfl, trivial⟩, rfl⟩
  · refine boolK_has_false (decide_eq_false (by omega)) ?_
    refine Has.intro ?_
    refine Has.intro (Has.intro ?_)
    show u32 ((bs.take 4).foldl valStep 0#32) = _
    rw [List.take_of_length_le (by omega)]; rfl

theorem crc_nine : sum 0xffffffff#32 [49, 50, 51, 52, 53, 54, 55, 56, 57] = 0x340bc6d9#32 := by decide +kernel
theorem crc_nine' : sum 0xffffffff#32 [] = 0xffffffff#32 := rfl
theorem of_nine (y x : Ext) : EP (EE env) 48 [.sl y 1 [.sl x 9 [.int .u8 49, .int .u8 50, .int .u8 51, .int .u8 52, .int .u8 53, .int .u8 54, .int .u8 55, .int .u8 56, .int .u8 57]]] = some (.int .u32 3421780262) := by
  have := of1 y x [49, 50, 51, 52, 53, 54, 55, 56, 57] (by decide)
  rw [crc, crc_nine] at this; exact this
theorem of_none : EP (EE env) 48 [.sl .nil 0 []] = some (.int .u32 0) := of_ok .nil 0 [] rfl (by decide) (by simp)
theorem add_nine (x y z : Ext) (rest : Heap) : EE env (.fn 63) [.ptr 0 0, .pv (.sl x 2 [.sl y 4 [.int .u8 49, .int .u8 50, .int .u8 51, .int .u8 52], .sl z 5 [.int .u8 53, .int .u8 54, .int .u8 55, .int .u8 56, .int .u8 57]])] (.pcells [.int .u32 4294967295] :: rest) = some (.pv (.tup []), .pcells [.int .u32 873187033] :: rest) := by
  have := add_ok (.pcells [u32 0xffffffff#32] :: rest) 0 _ rfl x 2 [(y, [49, 50, 51, 52]), (z, [53, 54, 55, 56, 57])] rfl (by decide) (by simp [maxLen_eq])
  have e : sum 0xffffffff#32 (List.map (fun x : Ext × List UInt8 => x.snd) [(y, [49, 50, 51, 52]), (z, [53, 54, 55, 56, 57])]).flatten = 0x340bc6d9#32 := crc_nine
  rw [e] at this; exact this
theorem value_nine (rest : Heap) : EE env (.fn 64) [.ptr 0 0] (.pcells [.int .u32 873187033] :: rest) = some (.pv (.int .u32 3421780262), .pcells [.int .u32 873187033] :: rest) := value_ok _ 0 0x340bc6d9#32 rfl
theorem bytes_lit : EP (EE env) 47 [.int .u32 16909060] = some (.agg [.int .u8 1, .int .u8 2, .int .u8 3, .int .u8 4]) := bytes_ok 0x01020304#32
theorem val_lit : EP (EE env) 50 [.agg [.int .u8 1, .int .u8 2, .int .u8 3, .int .u8 4]] = some (.int .u32 16909060) := val_ok [1, 2, 3, 4] rfl
theorem new_nil : EE env (.fn 62) [] [] = some (.ptr 0 0, [.pcells [.int .u32 4294967295]]) := new_ok []


end Go.Proofs.Ytflfdglnelbbiaa.W

namespace Go.Proofs.Ytflfdglnelbbiaa.W
open Go Go.VM

theorem mask_eq (x : BitVec 32) : (0xedb88320#32 &&& -(x &&& 1#32)) = if x.getLsbD 0 then 0xedb88320#32 else 0#32 := by
  have h : x &&& 1#32 = if x.getLsbD 0 then 1#32 else 0#32 := by
    ext i hi
    rw [BitVec.getElem_and]
    by_cases h0 : i = 0
    · subst h0; cases hx : x.getLsbD 0 <;> simp_all [BitVec.getLsbD_eq_getElem]
    · have : (1#32)[i] = false := by
        rw [← BitVec.getLsbD_eq_getElem, BitVec.getLsbD_one]; simp [h0]
      rw [this]; split <;> simp [this]
  rw [h]
  split <;> rfl
theorem bit_xor (a b : BitVec 32) : bit (a ^^^ b) = bit a ^^^ bit b := by
  unfold bit
  rw [mask_eq, mask_eq, mask_eq, BitVec.ushiftRight_xor_distrib, BitVec.getLsbD_xor]
  cases a.getLsbD 0 <;> cases b.getLsbD 0 <;> simp
  · rw [BitVec.xor_assoc]
  · rw [BitVec.xor_assoc, BitVec.xor_assoc, BitVec.xor_comm (b >>> 1)]
  · rw [BitVec.xor_assoc, ← BitVec.xor_assoc 3988292384#32, BitVec.xor_comm 3988292384#32 (b >>> 1), BitVec.xor_assoc]; simp
theorem bits_xor (n : Nat) (a b : BitVec 32) : bits n (a ^^^ b) = bits n a ^^^ bits n b := by
  induction n with
  | zero => rfl
  | succ n ih => show bit _ = bit _ ^^^ bit _; rw [ih, bit_xor]
theorem ofNat_xor8 (x y : UInt8) : BitVec.ofNat 32 (x ^^^ y).toNat = BitVec.ofNat 32 x.toNat ^^^ BitVec.ofNat 32 y.toNat := by
  rw [UInt8.toNat_xor]
  apply BitVec.eq_of_toNat_eq
  have h1 := x.toNat_lt
  have h2 := y.toNat_lt
  have h3 : x.toNat ^^^ y.toNat < 2 ^ 32 := Nat.xor_lt_two_pow (by omega) (by omega)
  simp only [BitVec.toNat_xor, BitVec.toNat_ofNat]
  rw [Nat.mod_eq_of_lt h3, Nat.mod_eq_of_lt (by omega), Nat.mod_eq_of_lt (by omega)]
theorem byte_xor (r s : BitVec 32) (x y : UInt8) : byte (r ^^^ s) (x ^^^ y) = byte r x ^^^ byte s y := by
  unfold byte
  rw [← bits_xor, ofNat_xor8]
  congr 1
  rw [BitVec.xor_assoc, BitVec.xor_assoc, ← BitVec.xor_assoc s, BitVec.xor_comm s, BitVec.xor_assoc]
theorem sum_xor : ∀ (x y : List UInt8) (r s : BitVec 32), x.length = y.length → sum (r ^^^ s) (List.zipWith (· ^^^ ·) x y) = sum r x ^^^ sum s y := by
  intro x
  induction x with
  | nil => intro y r s h; cases y with
    | nil => rfl
    | cons _ _ => cases h
  | cons a x ih => intro y r s h; cases y with
    | nil => cases h
    | cons b y =>
      show sum (byte (r ^^^ s) (a ^^^ b)) (List.zipWith _ x y) = sum (byte r a) x ^^^ sum (byte s b) y
      rw [byte_xor]
      exact ih y _ _ (by simpa using h)

theorem bit_back {w : BitVec 32} (h : (bit w).toNat < 2 ^ 31) : w.toNat = 2 * (bit w).toNat := by
  unfold bit at h ⊢
  rw [mask_eq] at h ⊢
  cases h0 : w.getLsbD 0 with
  | true =>
    rw [h0] at h; simp only [if_true] at h
    exfalso
    have h31 : ((w >>> 1) ^^^ 0xedb88320#32).getLsbD 31 = true := by
      rw [BitVec.getLsbD_xor, BitVec.getLsbD_ushiftRight]
      have : w.getLsbD (1 + 31) = false := BitVec.getLsbD_of_ge w _ (by decide)
      rw [this]; rfl
    have := Nat.ge_two_pow_of_testBit h31
    omega
  | false =>
    simp only [Bool.false_eq_true, if_false, BitVec.xor_zero]
    rw [BitVec.toNat_ushiftRight, Nat.shiftRight_eq_div_pow]
    have : w.toNat.testBit 0 = false := h0
    rw [Nat.testBit_zero] at this
    simp at this
    omega
theorem bits_back : ∀ (n : Nat) {w : BitVec 32}, n ≤ 32 → (bits n w).toNat < 2 ^ (32 - n) → w.toNat = 2 ^ n * (bits n w).toNat := by
  intro n
  induction n with
  | zero => intro w _ _; show w.toNat = 1 * w.toNat; omega
  | succ n ih =>
    intro w hn h
    have hle : 2 ^ (32 - (n + 1)) ≤ 2 ^ 31 := Nat.pow_le_pow_right (by decide) (by omega)
    have h1 : (bits n w).toNat = 2 * (bits (n + 1) w).toNat := bit_back (Nat.lt_of_lt_of_le h hle)
    have hp : 2 ^ (32 - n) = 2 * 2 ^ (32 - (n + 1)) := by
      rw [show 32 - n = (32 - (n + 1)) + 1 by omega, Nat.pow_succ]; omega
    have h2 := ih (w := w) (by omega) (by rw [h1, hp]; omega)
    rw [h2, h1, Nat.pow_succ]
    rw [Nat.mul_assoc]
theorem bits_zero {n : Nat} (hn : n ≤ 32) {w : BitVec 32} (h : bits n w = 0#32) : w = 0#32 := by
  have := bits_back n (w := w) hn (by rw [h]; exact Nat.pow_pos (by decide))
  rw [h] at this
  exact BitVec.eq_of_toNat_eq (by simpa using this)
theorem bits_of_zero (n : Nat) : bits n 0#32 = 0#32 := by
  induction n with
  | zero => rfl
  | succ n ih => show bit _ = _; rw [ih]; rfl

theorem byte_zero (r : BitVec 32) : byte r 0 = bits 8 r := by unfold byte; simp
theorem sum_zeros : ∀ (l : List UInt8) (r : BitVec 32), (∀ v ∈ l, v = 0) → (sum r l = 0#32 ↔ r = 0#32) := by
  intro l
  induction l with
  | nil => intro r _; exact Iff.rfl
  | cons a l ih =>
    intro r h
    have ha : a = 0 := h a (by simp)
    show sum (byte r a) l = 0#32 ↔ _
    rw [ih _ (fun v hv => h v (by simp [hv])), ha, byte_zero]
    exact ⟨bits_zero (by decide), fun e => by rw [e, bits_of_zero]⟩
theorem sum_append (r : BitVec 32) (a b : List UInt8) : sum r (a ++ b) = sum (sum r a) b := by simp [sum]

theorem byte_toNat (x : UInt8) : (BitVec.ofNat 32 x.toNat).toNat = x.toNat := by
  have := x.toNat_lt
  rw [BitVec.toNat_ofNat, Nat.mod_eq_of_lt (by omega)]
theorem short : ∀ (n : Nat) (l : List UInt8) (k : Nat), l.length = n → n + k ≤ 4 → (sum 0#32 l).toNat < 2 ^ (8 * k) → k ≤ 3 → sum 0#32 l = 0#32 ∧ ∀ v ∈ l, v = 0 := by
  intro n
  induction n with
  | zero => intro l k hl _ _ _; cases l with
    | nil => exact ⟨rfl, fun v hv => by cases hv⟩
    | cons _ _ => cases hl
  | succ n ih =>
    intro l k hl hk hs hk3
    obtain ⟨l', x, rfl⟩ : ∃ l' x, l = l' ++ [x] := ⟨l.dropLast, l.getLast (by intro e; rw [e] at hl; cases hl), (List.dropLast_concat_getLast _).symm⟩
    have hl' : l'.length = n := by simpa using hl
    rw [sum_append] at hs ⊢
    have e : sum (sum 0#32 l') [x] = bits 8 (sum 0#32 l' ^^^ BitVec.ofNat 32 x.toNat) := rfl
    rw [e] at hs ⊢
    have h24 : 2 ^ (8 * k) ≤ 2 ^ 24 := Nat.pow_le_pow_right (by decide) (by omega)
    have hb := bits_back 8 (w := sum 0#32 l' ^^^ BitVec.ofNat 32 x.toNat) (by decide) (Nat.lt_of_lt_of_le hs h24)
    have hx := x.toNat_lt
    have hp : 2 ^ (8 * (k + 1)) = 256 * 2 ^ (8 * k) := by rw [show 8 * (k + 1) = 8 * k + 8 by omega, Nat.pow_add]; omega
    have hz : sum 0#32 l' = 0#32 ∧ ∀ v ∈ l', v = 0 := by
      by_cases h0 : n = 0
      · subst h0
        cases l' with
        | nil => exact ⟨rfl, fun v hv => by cases hv⟩
        | cons _ _ => cases hl'
      · refine ih l' (k + 1) hl' (by omega) ?_ (by omega)
        have h1 : (sum 0#32 l' ^^^ BitVec.ofNat 32 x.toNat).toNat < 2 ^ (8 * (k + 1)) := by rw [hb, hp]; omega
        have h2 : (BitVec.ofNat 32 x.toNat).toNat < 2 ^ (8 * (k + 1)) := by
          rw [byte_toNat, hp]
          have : 0 < 2 ^ (8 * k) := Nat.pow_pos (by decide)
          omega
        have h3 : sum 0#32 l' = (sum 0#32 l' ^^^ BitVec.ofNat 32 x.toNat) ^^^ BitVec.ofNat 32 x.toNat := by rw [BitVec.xor_assoc]; simp
        rw [h3, BitVec.toNat_xor]
        exact Nat.xor_lt_two_pow h1 h2
    rw [hz.1, BitVec.zero_xor, byte_toNat] at hb
    rw [hz.1, BitVec.zero_xor]
    have hx0 : x.toNat = 0 := by omega
    have hx1 : x = 0 := by
      have : x.toNat = (0 : UInt8).toNat := by rw [hx0]; rfl
      exact UInt8.toNat_inj.1 this
    refine ⟨by rw [hx1]; exact bits_of_zero 8, fun v hv => ?_⟩
    rcases List.mem_append.1 hv with h | h
    · exact hz.2 v h
    · rw [List.mem_singleton.1 h, hx1]

/-- Bytes that are none but for four beside one another: their sum is none only if they all are. -/
theorem four_zero (l : List UInt8) (p : Nat) (h : ∀ (j : Nat) (v : UInt8), l[j]? = some v → (j < p ∨ p + 4 ≤ j) → v = 0) : sum 0#32 l = 0#32 ↔ ∀ v ∈ l, v = 0 := by
  refine ⟨fun hs => ?_, fun hz => (sum_zeros l 0#32 hz).2 rfl⟩
  have e : l = l.take p ++ ((l.drop p).take 4 ++ l.drop (p + 4)) := by
    rw [← List.drop_drop, List.take_append_drop, List.take_append_drop]
  have z1 : ∀ v ∈ l.take p, v = 0 := fun v hv => by
    obtain ⟨j, hj⟩ := List.getElem?_of_mem hv
    rw [List.getElem?_take] at hj
    split at hj
    · exact h j v hj (by omega)
    · cases hj
  have z3 : ∀ v ∈ l.drop (p + 4), v = 0 := fun v hv => by
    obtain ⟨j, hj⟩ := List.getElem?_of_mem hv
    rw [List.getElem?_drop] at hj
    exact h _ v hj (by omega)
  rw [e, sum_append, (sum_zeros _ 0#32 z1).2 rfl, sum_append, sum_zeros _ _ z3] at hs
  have hlen : ((l.drop p).take 4).length ≤ 4 := by rw [List.length_take]; omega
  have z2 := (short _ _ 0 rfl (by omega) (by rw [hs]; decide) (by omega)).2
  intro v hv
  rw [e] at hv
  rcases List.mem_append.1 hv with h1 | h1
  · exact z1 v h1
  · rcases List.mem_append.1 h1 with h1 | h1
    · exact z2 v h1
    · exact z3 v h1
end Go.Proofs.Ytflfdglnelbbiaa.W

namespace Go.Proofs.Ytflfdglnelbbiaa.W
open Go Go.VM

def bcells (f : Nat → Bool) : List PV := (List.range 32).map fun j => .bool (f j)
theorem bcells_len (f : Nat → Bool) : (bcells f).length = 32 := by simp [bcells]
theorem bcells_get (f : Nat → Bool) {i : Nat} (h : i < 32) : (bcells f)[i]? = some (.bool (f i)) := by simp [bcells, h]
theorem bcells_congr {f g : Nat → Bool} (h : ∀ j, j < 32 → f j = g j) : bcells f = bcells g := by
  unfold bcells
  apply List.map_congr_left
  intro j hj
  rw [h j (List.mem_range.1 hj)]
theorem bcells_set (f : Nat → Bool) (i : Nat) (b : Bool) : (bcells f).set i (.bool b) = bcells (fun j => if j = i then b else f j) := by
  apply List.ext_getElem?
  intro j
  rw [List.getElem?_set]
  rcases Nat.lt_or_ge j 32 with h | h
  · rw [bcells_get _ h]
    by_cases he : i = j
    · subst he; rw [if_pos rfl, if_pos (by rw [bcells_len]; exact h), bcells_get _ h, if_pos rfl]
    · rw [if_neg he, bcells_get _ h, if_neg (fun e => he e.symm)]
  · rw [List.getElem?_eq_none (by rw [bcells_len]; exact h)]
    split
    · rw [List.getElem?_eq_none (by rw [bcells_len]; exact h)]
      split
      · rename_i h1 h2; rw [bcells_len] at h2; omega
      · rfl
    · rw [List.getElem?_eq_none (by rw [bcells_len]; exact h)]

/-- The register after k bits of a byte. -/
def ser (r : BitVec 32) (b k : Nat) : BitVec 32 := bits k (r ^^^ BitVec.ofNat 32 b) ^^^ (BitVec.ofNat 32 b >>> k)
theorem bit_eq (x : BitVec 32) : bit x = (x >>> 1) ^^^ (if x.getLsbD 0 then 0xedb88320#32 else 0#32) := by unfold bit; rw [mask_eq]
theorem ser_low (r : BitVec 32) (b k : Nat) (hb : b < 256) (hk : k < 8) : (!((ser r b k).getLsbD 0 == (b / 2 ^ k % 2 == 1))) = (bits k (r ^^^ BitVec.ofNat 32 b)).getLsbD 0 := by
  unfold ser
  rw [BitVec.getLsbD_xor, BitVec.getLsbD_ushiftRight, Nat.add_zero]
  have : (BitVec.ofNat 32 b).getLsbD k = (b / 2 ^ k % 2 == 1) := by
    rw [BitVec.getLsbD_ofNat]
    have : decide (k < 32) = true := decide_eq_true (by omega)
    rw [this, Bool.true_and, Nat.testBit_eq_decide_div_mod_eq]
    rw [Bool.eq_iff_iff]; simp
  rw [this]
  cases (bits k (r ^^^ BitVec.ofNat 32 b)).getLsbD 0 <;> cases (b / 2 ^ k % 2 == 1) <;> rfl
theorem ser_step (r : BitVec 32) (b k : Nat) : ser r b (k + 1) = (ser r b k >>> 1) ^^^ (if (bits k (r ^^^ BitVec.ofNat 32 b)).getLsbD 0 then 0xedb88320#32 else 0#32) := by
  unfold ser
  show bit _ ^^^ _ = _
  rw [bit_eq, BitVec.ushiftRight_xor_distrib, ← BitVec.shiftRight_add]
  rw [BitVec.xor_assoc, BitVec.xor_assoc]
  congr 1
  exact BitVec.xor_comm _ _
theorem ser_end (r : BitVec 32) (b : UInt8) : ser r b.toNat 8 = byte r b := by
  unfold ser byte
  have : BitVec.ofNat 32 b.toNat >>> 8 = 0#32 := by
    apply BitVec.eq_of_toNat_eq
    rw [BitVec.toNat_ushiftRight, byte_toNat, Nat.shiftRight_eq_div_pow]
    have := b.toNat_lt
    have : b.toNat / 2 ^ 8 = 0 := Nat.div_eq_of_lt (by omega)
    rw [this]; rfl
  rw [this, BitVec.xor_zero]
theorem ser_start (r : BitVec 32) (b : Nat) : ser r b 0 = r := by
  unfold ser
  show (r ^^^ BitVec.ofNat 32 b) ^^^ (BitVec.ofNat 32 b >>> 0) = r
  rw [BitVec.ushiftRight_zero, BitVec.xor_assoc]; simp

def over (j : Nat) : Bool := (0xedb88320#32 : BitVec 32).getLsbD j
theorem over_eq : ∀ j, j < 32 → (3988292384 / 2 ^ j % 2 == 1) = over j := by decide

theorem tmod_nat (a : Nat) : (a : Int).tmod 2 = ((a % 2 : Nat) : Int) := rfl
theorem u32_half (a : Nat) (h : a < 4294967296) : IntKind.u32.wrap ((a : Int).tdiv 2) = ((a / 2 : Nat) : Int) := by
  show IntKind.u32.wrap ((a / 2 : Nat) : Int) = _
  exact wrap_u32 (by omega)
theorem u8_half (a : Nat) (h : a < 256) : IntKind.u8.wrap ((a : Int).tdiv 2) = ((a / 2 : Nat) : Int) := by
  show IntKind.u8.wrap ((a / 2 : Nat) : Int) = _
  rw [wrap_u8_mod, Nat.mod_eq_of_lt (by omega)]
theorem odd_eq (a : Nat) : (((a % 2 : Nat) : Int) == 1) = (a % 2 == 1) := by
  rw [Bool.eq_iff_iff]; simp; omega

/-- The number, bit by bit, the highest first. -/
theorem bits_num (x : BitVec 32) (m : Nat) (hm : m < 32) : x.toNat / 2 ^ (32 - (m + 1)) = 2 * (x.toNat / 2 ^ (32 - m)) + (if x.getLsbD (31 - m) then 1 else 0) := by
  have e : 32 - m = (32 - (m + 1)) + 1 := by omega
  rw [e, Nat.pow_succ, ← Nat.div_div_eq_div_mul]
  have : x.getLsbD (31 - m) = decide (x.toNat / 2 ^ (32 - (m + 1)) % 2 = 1) := by
    show x.toNat.testBit (31 - m) = _
    rw [Nat.testBit_eq_decide_div_mod_eq]
    rw [show 31 - m = 32 - (m + 1) by omega]
  rw [this]
  generalize x.toNat / 2 ^ (32 - (m + 1)) = y
  by_cases h : y % 2 = 1
  · rw [if_pos (by simpa using h)]; omega
  · rw [if_neg (by simpa using h)]; omega

theorem ref_init : [PV.bool false, .bool false, .bool false, .bool false, .bool false, .bool false, .bool false, .bool false, .bool false, .bool false, .bool false, .bool false, .bool false, .bool false, .bool false, .bool false, .bool false, .bool false, .bool false, .bool false, .bool false, .bool false, .bool false, .bool false, .bool false, .bool false, .bool false, .bool false, .bool false, .bool false, .bool false, .bool false] = bcells (fun _ => false) := rfl

end Go.Proofs.Ytflfdglnelbbiaa.W

namespace Go.Proofs.Ytflfdglnelbbiaa.W
open Go Go.VM

theorem arg_rows_els : ∀ (n : Nat) (cs : List PV), Els (HasTy (.sl 1 (.int .u8))) 1 n cs → ∃ rows : List (Ext × List UInt8), rows.length = n ∧ cs = rows.map row ∧ ∀ p ∈ rows, p.2.length ≤ maxLen := by
  intro n
  induction n with
  | zero => intro cs h; exact ⟨[], rfl, h, fun p hp => by cases hp⟩
  | succ n ih =>
    intro cs ⟨a, b, h1, h2, h3, h4⟩
    obtain ⟨rows, g1, g2, g3⟩ := ih b h4
    obtain ⟨q, rfl⟩ : ∃ q, a = [q] := by
      match a, h2 with
      | [q], _ => exact ⟨q, rfl⟩
    obtain ⟨x, bs, e, hl, _⟩ := arg_bytes h3
    refine ⟨(x, bs) :: rows, by simp [g1], by rw [h1, g2, e]; rfl, fun p hp => ?_⟩
    rcases List.mem_cons.1 hp with e | e
    · rw [e]; exact hl
    · exact g3 p e
theorem arg_rows {p : PV} (h : HasTy (.sl 1 (.sl 1 (.int .u8))) [p]) : ∃ (x : Ext) (rows : List (Ext × List UInt8)), p = .sl x rows.length (rows.map row) ∧ rows.length ≤ maxLen ∧ ∀ p ∈ rows, p.2.length ≤ maxLen := by
  obtain ⟨x, len, cells, h1, h2, h3, h4⟩ := h
  obtain ⟨rows, g1, g2, g3⟩ := arg_rows_els _ _ h4
  injection h1 with h1
  exact ⟨x, rows, by rw [h1, g1, g2], by omega, g3⟩

theorem strOf_bc (bs : List UInt8) : strOfCells (bc bs) = some bs := by
  induction bs with
  | nil => rfl
  | cons b bs ih =>
    show (strOfCells (bc bs)).map _ = _
    rw [ih]
    simp
theorem strOf_bc' (bs : List UInt8) {cs : List PV} (h : cs = bc bs) : strOfCells cs = some bs := by rw [h, strOf_bc]

/-- The four bytes of a sum, as bytes. -/
def four8 (r : BitVec 32) : List UInt8 := [UInt8.ofNat (r.toNat / 16777216 % 256), UInt8.ofNat (r.toNat / 65536 % 256), UInt8.ofNat (r.toNat / 256 % 256), UInt8.ofNat (r.toNat % 256)]
theorem four_eq (r : BitVec 32) : four r = bc (four8 r) := by
  unfold four four8 bc
  simp only [List.map_cons, List.map_nil, UInt8.toNat_ofNat', Nat.mod_mod]
theorem u32_div (a b : Nat) (h : a < 4294967296) : IntKind.u32.wrap ((a : Int).tdiv (b : Int)) = ((a / b : Nat) : Int) := by
  show IntKind.u32.wrap ((a / b : Nat) : Int) = _
  exact wrap_u32 (Nat.lt_of_le_of_lt (Nat.div_le_self _ _) h)
theorem tmod_nats (a b : Nat) : (a : Int).tmod (b : Int) = ((a % b : Nat) : Int) := rfl

theorem valStep_nat (x : BitVec 32) (n : Nat) (hx : x.toNat < 16777216) (hn : n < 256) : (valStep x (UInt8.ofNat n)).toNat = x.toNat * 256 + n := by
  unfold valStep
  have e : (UInt8.ofNat n).toNat = n := by rw [UInt8.toNat_ofNat']; omega
  rw [e, BitVec.toNat_or, BitVec.toNat_shiftLeft, BitVec.toNat_ofNat, Nat.mod_eq_of_lt (by omega : n < 2 ^ 32)]
  have h1 : x.toNat <<< 8 = x.toNat * 256 := by rw [Nat.shiftLeft_eq]
  have h2 : x.toNat <<< 8 % 2 ^ 32 = x.toNat <<< 8 := by rw [h1]; omega
  rw [h2, ← Nat.shiftLeft_add_eq_or_of_lt (by omega : n < 2 ^ 8), h1]
theorem val_four (r : BitVec 32) : val (four8 r) = r := by
  have hr := r.isLt
  apply BitVec.eq_of_toNat_eq
  unfold val four8
  simp only [List.foldl_cons, List.foldl_nil]
  have h1 := valStep_nat 0#32 (r.toNat / 16777216 % 256) (by decide) (by omega)
  have z : (0#32 : BitVec 32).toNat = 0 := rfl
  rw [z] at h1
  have h2 := valStep_nat (valStep 0#32 (UInt8.ofNat (r.toNat / 16777216 % 256))) (r.toNat / 65536 % 256) (by omega) (by omega)
  have h3 := valStep_nat (valStep (valStep 0#32 (UInt8.ofNat (r.toNat / 16777216 % 256))) (UInt8.ofNat (r.toNat / 65536 % 256))) (r.toNat / 256 % 256) (by omega) (by omega)
  have h4 := valStep_nat _ (r.toNat % 256) (by rw [h3, h2, h1]; omega) (by omega)
  rw [h4, h3, h2, h1]
  omega
theorem val4_ok (r : BitVec 32) : EP (EE env) 50 [.agg (four r)] = some (u32 r) := by
  have := val_ok (four8 r) rfl
  rw [← four_eq, val_four] at this
  exact this

theorem addNil (v : AV) (H : Heap) : EE env (.fn 63) [.pv .nilp, v] H = some (.pv (.tup []), H) := EE_intro rfl
theorem valueNil (H : Heap) : EE env (.fn 64) [.pv .nilp] H = some (.pv (.int .u32 0), H) := EE_intro rfl
/-- Rows, up to i of them, one behind the other. -/
def joined (rows : List (Ext × List UInt8)) (i : Nat) : List UInt8 := ((rows.take i).map (·.2)).flatten
theorem joined_succ {rows : List (Ext × List UInt8)} {i : Nat} {p : Ext × List UInt8} (h : rows[i]? = some p) : joined rows (i + 1) = joined rows i ++ p.2 := by
  unfold joined
  rw [List.take_add_one, h]; simp
theorem size_mk (l : List UInt8) : (⟨l.toArray⟩ : ByteArray).size = l.length := by simp [ByteArray.size]
theorem mk_append (a b : List UInt8) : (⟨a.toArray⟩ : ByteArray) ++ ⟨b.toArray⟩ = ⟨(a ++ b).toArray⟩ := by
  apply ByteArray.ext
  simp [ByteArray.data_append]

end Go.Proofs.Ytflfdglnelbbiaa.W

namespace Go.Proofs.Ytflfdglnelbbiaa.W
open Go Go.VM

def num (bs : List UInt8) : Nat := bs.foldl (fun u c => u * 256 + c.toNat) 0
theorem num_step {bs : List UInt8} {i : Nat} {c : UInt8} (h : bs[i]? = some c) : num (bs.take (i + 1)) = num (bs.take i) * 256 + c.toNat := take_foldl h
theorem num_acc : ∀ (l : List UInt8) (u : Nat), l.foldl (fun u c => u * 256 + c.toNat) u = u * 256 ^ l.length + num l := by
  intro l
  induction l with
  | nil => intro u; simp [num]
  | cons c l ih =>
    intro u
    have h2 : num (c :: l) = (0 * 256 + c.toNat) * 256 ^ l.length + num l := ih _
    rw [List.foldl_cons, ih, h2, List.length_cons, Nat.pow_succ, Nat.add_mul, Nat.zero_mul, Nat.zero_add, Nat.add_assoc, Nat.mul_assoc, Nat.mul_comm 256]
theorem num_cons (c : UInt8) (l : List UInt8) : num (c :: l) = c.toNat * 256 ^ l.length + num l := by
  show l.foldl (fun u c => u * 256 + c.toNat) (0 * 256 + c.toNat) = _
  rw [num_acc, Nat.zero_mul, Nat.zero_add]
theorem num_lt : ∀ (l : List UInt8), num l < 256 ^ l.length := by
  intro l
  induction l with
  | nil => decide
  | cons c l ih =>
    rw [num_cons, List.length_cons, Nat.pow_succ]
    have h := c.toBitVec.isLt
    have h : c.toNat + 1 ≤ 256 := by have : c.toNat < 256 := h; omega
    have := Nat.mul_le_mul_right (256 ^ l.length) h
    rw [Nat.add_mul, Nat.one_mul, Nat.mul_comm 256] at this
    omega
def bigB (u : Nat) : Nat → List UInt8
  | 0 => []
  | k + 1 => UInt8.ofNat (u / 256 ^ k % 256) :: bigB u k
theorem bigB_len (u k : Nat) : (bigB u k).length = k := by
  induction k with
  | zero => rfl
  | succ k ih => rw [bigB, List.length_cons, ih]
theorem bigB_get (u : Nat) : ∀ (k i : Nat), i < k → (bigB u k)[i]? = some (UInt8.ofNat (u / 256 ^ (k - 1 - i) % 256)) := by
  intro k
  induction k with
  | zero => intro i h; omega
  | succ k ih =>
    intro i h
    cases i with
    | zero => rw [bigB]; simp
    | succ i =>
      rw [bigB, List.getElem?_cons_succ, ih i (by omega)]
      congr 4
      congr 1
      omega
theorem bigB_mod (a u n : Nat) : ∀ m, m ≤ n → bigB (a * 256 ^ n + u) m = bigB u m := by
  intro m
  induction m with
  | zero => intro _; rfl
  | succ m ih =>
    intro h
    rw [bigB, bigB, ih (by omega)]
    congr 2
    have e : 256 ^ n = 256 ^ m * (256 * 256 ^ (n - m - 1)) := by
      rw [← Nat.pow_succ', ← Nat.pow_add]; congr 1; omega
    rw [e, show a * (256 ^ m * (256 * 256 ^ (n - m - 1))) = 256 ^ m * (256 * (a * 256 ^ (n - m - 1))) by
      rw [Nat.mul_left_comm a, Nat.mul_left_comm a], Nat.mul_add_div (Nat.pow_pos (by decide)), Nat.mul_add_mod]
theorem bigB_num : ∀ (l : List UInt8), bigB (num l) l.length = l := by
  intro l
  induction l with
  | nil => rfl
  | cons c l ih =>
    rw [List.length_cons, bigB, num_cons, bigB_mod _ _ _ _ (Nat.le_refl _), ih]
    congr 1
    have h := num_lt l
    have hc : c.toNat < 256 := c.toBitVec.isLt
    rw [Nat.mul_comm, Nat.mul_add_div (Nat.pow_pos (by decide)), Nat.div_eq_of_lt h, Nat.add_zero, Nat.mod_eq_of_lt hc]
    simp
theorem num_bigB (u : Nat) : ∀ k, num (bigB u k) = u % 256 ^ k := by
  intro k
  induction k with
  | zero => simp [bigB, num, Nat.mod_one]
  | succ k ih =>
    rw [bigB, num_cons, bigB_len, ih, UInt8.toNat_ofNat', Nat.mod_mod_of_dvd _ (by decide : (2 ^ 8) ∣ 256)]
    have h1 : (2 : Nat) ^ 8 = 256 := by decide
    rw [h1, Nat.pow_succ, Nat.mod_mul, Nat.mul_comm, Nat.add_comm]
def u64 (n : Nat) : PV := .int .u64 n
theorem wrap_u64n {n : Nat} (h : n < 18446744073709551616) : IntKind.u64.wrap (n : Int) = n := by
  rw [wrap_u64_emod]; omega
theorem u64_shl8 {n : Nat} (h : n * 256 < 18446744073709551616) : IntKind.u64.wrap ((n : Int) * 2 ^ (min (8 : Int).toNat IntKind.u64.bits)) = ((n * 256 : Nat) : Int) := by
  have e : (2 : Int) ^ (min (8 : Int).toNat IntKind.u64.bits) = 256 := by decide
  rw [e, show (n : Int) * 256 = ((n * 256 : Nat) : Int) by simp, wrap_u64n h]
theorem sum_lt {n c : Nat} (h : n * 256 < 18446744073709551616) (hc : c < 256) : n * 256 + c < 18446744073709551616 := by
  have h1 : n < 72057594037927936 := Nat.lt_of_mul_lt_mul_right (a := 256) h
  have h2 : (n + 1) * 256 ≤ 72057594037927936 * 256 := Nat.mul_le_mul_right 256 h1
  exact Nat.lt_of_lt_of_le (Nat.add_lt_add_left hc _) (by rw [← Nat.succ_mul]; exact h2)
theorem u64_or8 {n c : Nat} (h : n * 256 < 18446744073709551616) (hc : c < 256) : IntKind.u64.wrap ((BitVec.ofInt IntKind.u64.bits ((n * 256 : Nat) : Int) ||| BitVec.ofInt IntKind.u64.bits (c : Int)).toNat : Int) = ((n * 256 + c : Nat) : Int) := by
  show IntKind.u64.wrap ((BitVec.ofInt 64 ((n * 256 : Nat) : Int) ||| BitVec.ofInt 64 (c : Int)).toNat : Int) = _
  have hb := sum_lt h hc
  have hc2 : c < 2 ^ 64 := Nat.lt_of_le_of_lt (Nat.le_add_left c (n * 256)) hb
  rw [BitVec.ofInt_natCast, BitVec.ofInt_natCast, BitVec.toNat_or, BitVec.toNat_ofNat, BitVec.toNat_ofNat, Nat.mod_eq_of_lt h, Nat.mod_eq_of_lt hc2]
  have hs := Nat.shiftLeft_add_eq_or_of_lt (show c < 2 ^ 8 from hc) n
  rw [Nat.shiftLeft_eq, show (2 : Nat) ^ 8 = 256 from rfl] at hs
  rw [← hs]
  exact wrap_u64n hb
theorem pow_le8 {i : Nat} (h : i < 8) : 256 ^ i * 256 ≤ 18446744073709551616 := by
  have : 256 ^ (i + 1) ≤ 256 ^ 8 := Nat.pow_le_pow_right (by decide) (by omega)
  rw [Nat.pow_succ] at this
  exact this
theorem number_ok (x : Ext) (bs : List UInt8) (h8 : bs.length ≤ 8) : EP (EE env) 49 [.sl x bs.length (bc bs)] = some (u64 (num bs)) := by
  refine Has.eq (EP_has ?_)
  refine loopK_has ?_
  refine iterE_up bs.length (fun i => [(3, .pv (u64 (num (bs.take i)))), (6, .pv (.sl x bs.length (bc bs))), (7, .pv (.int .i64 bs.length)), (8, .pv (.int .i64 i))]) (fun _ => []) (fun i hi r => ?_) (fun r => ?_) ⟨rfl, rfl, rfl, rfl, trivial⟩ rfl
  · have hc : (i : Int) < bs.length := by omega
    obtain ⟨c, hcg⟩ : ∃ c, bs[i]? = some c := ⟨_, List.getElem?_eq_getElem hi⟩
    have hlt := num_lt (bs.take i)
    rw [List.length_take, Nat.min_eq_left (Nat.le_of_lt hi)] at hlt
    have hp := pow_le8 (show i < 8 by omega)
    have h256 : num (bs.take i) * 256 < 18446744073709551616 := by
      have := Nat.mul_lt_mul_of_pos_right hlt (show 0 < 256 by decide)
      omega
    have hcl : c.toNat < 256 := c.toBitVec.isLt
    refine boolK_dec_t hc ?_
    refine needK_has (by (first | rfl | (simp; done) | (simp; omega))) ?_
    refine getK_has (v := .int .u8 c.toNat) (by rw [mulE_eq, Int.toNat_natCast, Nat.mul_one]; exact bc_get hcg) ?_
    refine needK_has rfl ?_
    refine eqK_has_eq _ (u64_shl8 h256) ?_
    refine eqK_has_eq _ (wrap_u64n (by omega)) ?_
    refine eqK_has_eq _ (u64_or8 h256 hcl) ?_
    refine eqK_has_eq _ (i64_succ (by omega)) ?_
    exact Has.intro ⟨⟨by rw [num_step hcg]; rfl, rfl, rfl, rfl, trivial⟩, rfl⟩
  · refine boolK_dec_f (by omega) ?_
    refine Has.intro (Has.intro (Has.intro ?_))
    rw [List.take_of_length_le (Nat.le_refl _)]; rfl
def sv (s : List UInt8) : PV := .str ⟨s.toArray⟩
theorem sv_size (s : List UInt8) : (⟨s.toArray⟩ : ByteArray).size = s.length := by simp [ByteArray.size]
theorem size_ok (n : Int) : EP (EE env) 30 [.int .i64 n] = some (.int .i64 (if 0 ≤ n ∧ n ≤ 65536 then n + 20 else 0)) := by
  refine Has.eq (EP_has ?_)
  refine boolK_dec (fun h1 => ?_) (fun h1 => ?_)
  · rw [if_neg (by omega)]
    exact Has.intro (Has.intro rfl)
  refine boolK_dec (fun h2 => ?_) (fun h2 => ?_)
  · rw [if_neg (by omega)]
    exact Has.intro (Has.intro rfl)
  rw [if_pos (by omega)]
  refine eqK_has_eq (16 + n) (wrap_i64 (by omega) (by omega)) ?_
  refine eqK_has_eq (n + 20) (by rw [wrap_i64 (by omega) (by omega)]; omega) ?_
  exact Has.intro (Has.intro rfl)
theorem big_set {u k i : Nat} (h : i < k) : ((bigB u k).take i ++ List.replicate (k - i) 0).set i (UInt8.ofNat (u / 256 ^ (k - 1 - i) % 256)) = (bigB u k).take (i + 1) ++ List.replicate (k - (i + 1)) 0 := by
  have hl := bigB_len u k
  rw [List.take_add_one, bigB_get u k i h, List.set_append_right _ _ (by simp [hl]; omega)]
  have e : i - ((bigB u k).take i).length = 0 := by simp [hl]; omega
  rw [e, show k - i = (k - (i + 1)) + 1 by omega, List.replicate_succ, List.set_cons_zero, List.append_assoc]; rfl
theorem u64_shr (u m : Nat) (hm : 8 * m ≤ 64) : ((u : Int)).fdiv (2 ^ (min ((8 * m : Nat) : Int).toNat IntKind.u64.bits)) = ((u / 256 ^ m : Nat) : Int) := by
  rw [Int.fdiv_eq_ediv_of_nonneg _ (by exact Int.le_of_lt (Int.pow_pos (by decide)))]
  have : min ((8 * m : Nat) : Int).toNat IntKind.u64.bits = 8 * m := by rw [Int.toNat_natCast]; simp [IntKind.bits]; omega
  rw [this, Int.pow_mul, show (2 : Int) ^ 8 = 256 by decide]
  simp
theorem u8_conv (n : Nat) : IntKind.u8.wrap (n : Int) = ((UInt8.ofNat (n % 256)).toNat : Int) := by
  rw [wrap_u8_mod, UInt8.toNat_ofNat']
  congr 1
  show n % 256 = n % 256 % 256
  rw [Nat.mod_mod]
theorem at1 (k : Nat) : addO 0 (mulE ((k : Nat) : Int).toNat 1) = k := by
  rw [addO_eq, mulE_eq, Int.toNat_natCast]; omega
theorem big_len (u : Nat) {k i : Nat} (h : i ≤ k) : ((bigB u k).take i ++ List.replicate (k - i) 0).length = k := by
  simp [bigB_len]; omega
set_option maxHeartbeats 1000000 in
theorem big_ok (u k : Nat) (hk : 1 ≤ k ∧ k ≤ 8) : EP (EE env) 46 [u64 u, .int .i64 k] = some (.sl .nn k (bc (bigB u k))) := by
  refine Has.eq (EP_has ?_)
  refine needK_has (by simp; omega) ?_
  refine eqK_has_eq (bc ((bigB u k).take 0 ++ List.replicate (k - 0) 0)) (by rw [Int.toNat_natCast, bc_zeros]; rfl) ?_
  refine loopK_has ?_
  refine iterE_up k (fun i => [(0, .pv (u64 u)), (1, .pv (.int .i64 k)), (5, .hs 1 0 0 k k), (10, .pv (.int .i64 k)), (11, .pv (.int .i64 i))]) (fun i => [.pcells (bc ((bigB u k).take i ++ List.replicate (k - i) 0))]) (fun i hi r => ?_) (fun r => ?_) ⟨rfl, rfl, rfl, rfl, rfl, trivial⟩ rfl
  · refine boolK_dec_t (by omega) ?_
    refine eqK_has_eq ((k - 1 : Nat) : Int) (by rw [wrap_i64 (by omega) (by omega)]; omega) ?_
    refine eqK_has_eq ((k - 1 - i : Nat) : Int) (by rw [wrap_i64 (by omega) (by omega)]; omega) ?_
    refine eqK_has_eq ((8 * (k - 1 - i) : Nat) : Int) (by rw [wrap_i64 (by omega) (by omega)]; omega) ?_
    refine needK_has (by simp; omega) ?_
    refine eqK_has_eq _ (u64_shr u (k - 1 - i) (by omega)) ?_
    refine eqK_has_eq _ (u8_conv _) ?_
    refine needK_has (by simp; omega) ?_
    refine hgetK_has _ rfl ?_
    refine needK_has (by rw [at1, bc_length, big_len u (Nat.le_of_lt hi)]; exact Nat.ble_eq_true_of_le hi) ?_
    refine eqK_has_eq (bc ((bigB u k).take (i + 1) ++ List.replicate (k - (i + 1)) 0)) (by rw [at1, bc_set, big_set hi]) ?_
    refine eqK_has_eq _ (i64_succ (by omega)) ?_
    exact Has.intro ⟨⟨rfl, rfl, rfl, rfl, rfl, trivial⟩, rfl⟩
  · refine boolK_dec_f (by omega) ?_
    have hb : (bigB u k).take k ++ List.replicate (k - k) 0 = bigB u k := by
      rw [Nat.sub_self, List.replicate_zero, List.append_nil, List.take_of_length_le (by rw [bigB_len]; omega)]
    rw [hb]
    refine Has.intro (Has.intro (Has.of_eq (x := PV.sl .nn k (bc (bigB u k))) ?_ rfl))
    have hl : (bc (bigB u k)).length = k := by rw [bc_length, bigB_len]
    show (bif Nat.ble (0 + k * 1) (bc (bigB u k)).length then some (PV.sl .nn k (((bc (bigB u k)).drop 0).take (k * 1))) else none) = _
    rw [hl, Nat.zero_add, Nat.mul_one, Nat.ble_self_eq_true, List.drop_zero, List.take_of_length_le (by omega)]; rfl
theorem add_room (a b : List UInt8) (h : a.length + b.length ≤ 1000000) : decide ((⟨a.toArray⟩ : ByteArray).size + (⟨b.toArray⟩ : ByteArray).size ≤ 9223372036854775807) = true := by
  rw [sv_size, sv_size]; exact decide_eq_true (by omega)
theorem u64_div (u i : Nat) (hu : u < 18446744073709551616) : IntKind.u64.wrap (((u / 256 ^ i : Nat) : Int).tdiv 256) = ((u / 256 ^ (i + 1) : Nat) : Int) := by
  have e : ((u / 256 ^ i : Nat) : Int).tdiv 256 = ((u / 256 ^ (i + 1) : Nat) : Int) := by
    rw [Nat.pow_succ, ← Nat.div_div_eq_div_mul]; rfl
  rw [e, wrap_u64n (Nat.lt_of_le_of_lt (Nat.div_le_self _ _) hu)]
theorem u8_rem (n : Nat) : IntKind.u8.wrap ((n : Int).tmod 256) = ((UInt8.ofNat (n % 256)).toNat : Int) := by
  have e : (n : Int).tmod 256 = ((n % 256 : Nat) : Int) := rfl
  rw [e, u8_conv, Nat.mod_mod]
end Go.Proofs.Ytflfdglnelbbiaa.W

namespace Go.Proofs.Ytflfdglnelbbiaa.W
open Go Go.VM

/-- A statement that may return. -/
theorem seq_if {R : Type} {Q : R → Prop} {env : Env} {E : Orc} {a b : VCode} {r : Regs} {h : Heap} {k : Ex → Regs → Heap → Option R} (Lr : List (Nat × AV)) (Pr : Prop) (L : List (Nat × AV)) (Pn : Prop) (H : Heap)
    (ha : Has (evK env E a Res r h doneK) fun x => (x.1 = .ret ∧ Agr x.2.1 Lr ∧ x.2.2 = H ∧ Pr) ∨ (x.1 = .normal ∧ Agr x.2.1 L ∧ x.2.2 = H ∧ Pn))
    (hr : Pr → ∀ r, Has (k .ret (setL r Lr) H) Q) (hn : Pn → ∀ r, Has (evK env E b R (setL r L) H k) Q) : Has (evK env E (.seq a b) R r h k) Q := by
  refine seq_join (fun e r h => (e = .ret ∧ Agr r Lr ∧ h = H ∧ Pr) ∨ (e = .normal ∧ Agr r L ∧ h = H ∧ Pn)) ha fun e r h hj => ?_
  rcases hj with ⟨rfl, h2, rfl, h4⟩ | ⟨rfl, h2, rfl, h4⟩
  · have := hr h4 r
    rw [h2.eq] at this
    exact this
  · have := hn h4 r
    rw [h2.eq] at this
    exact this
theorem grow_ok (n : Nat) (h0 : 0 < n) (h1 : n ≤ 1000000) : EE env (.fn 61) [.pv (.sl .nil 0 []), .pv (.int .i64 n)] [] = some (.tsl 0 0 [], [.tok 0 1]) := by
  refine Has.eq (EE_has ?_)
  refine boolK_dec_f (by omega) ?_
  refine eqK_has_eq 0 rfl ?_
  refine eqK_has_eq (n : Int) (by rw [wrap_i64 (by omega) (by omega)]; omega) ?_
  refine boolK_dec_t (by omega) ?_
  refine needK_has rfl ?_
  refine eqK_has_eq [] rfl ?_
  refine needK_has (by simp [Ext.noApp, Ext.part, mostBytes]; omega) ?_
  refine needK_has rfl ?_
  refine needK_has rfl ?_
  exact Has.intro rfl
theorem joined_le (rows : List (Ext × List UInt8)) (i : Nat) : (joined rows i).length ≤ (joined rows rows.length).length := by
  unfold joined
  rw [List.take_of_length_le (Nat.le_refl _)]
  conv => rhs; rw [← List.take_append_drop i rows, List.map_append, List.flatten_append, List.length_append]
  omega
theorem app_tsl {R : Type} {Q : R → Prop} {H : Heap} {F : AV → Heap → Option R} {e : Ext} {t es bytes n m : Nat} {cs new : List PV} (hk : hget H t = .tok n es) (hc : cs.length = n * es) (hl : new.length = m * es) (hb : (n + m) * bytes ≤ mostBytes)
    (k : Has (F (.tsl t (n + m) (cs ++ new)) (hset H t (.tok (n + m) es))) Q) : Has (appS false es bytes (.tsl t n cs) (.pv (.sl e m new)) H F) Q := by
  rw [appS_def]
  refine hgetK_has (.tok n es) hk ?_
  refine needK_has (by simp) ?_
  refine needK_has ?_ ?_
  · simp only [Bool.and_eq_true]
    refine ⟨⟨Nat.ble_eq_true_of_le hb, ?_⟩, ?_⟩
    · rw [mulE_eq, hc]; exact Nat.beq_refl _
    · rw [mulE_eq, hl]; exact Nat.beq_refl _
  refine eqK_has ?_
  refine eqK_has ?_
  exact k
set_option maxHeartbeats 1000000 in
theorem concat_ok (x : Ext) (rows : List (Ext × List UInt8)) (h0 : 0 < (joined rows rows.length).length) (h1 : (joined rows rows.length).length ≤ 1000000) (h2 : rows.length ≤ 100) :
    EE env (.fn 45) [.pv (.sl x rows.length (rows.map row))] [] = some (.tsl 0 (joined rows rows.length).length (bc (joined rows rows.length)), [.tok (joined rows rows.length).length 1]) := by
  refine Has.eq (EE_has ?_)
  refine loopK_has ?_
  refine iterE_up rows.length (fun i => [(0, .pv (.sl x rows.length (rows.map row))), (3, .pv (.int .i64 (joined rows i).length)), (9, .pv (.sl x rows.length (rows.map row))), (10, .pv (.int .i64 rows.length)), (11, .pv (.int .i64 i))]) (fun _ => []) (fun i hi r => ?_) (fun r => ?_) ⟨rfl, rfl, rfl, rfl, rfl, trivial⟩ rfl
  · obtain ⟨p, hp⟩ : ∃ p, rows[i]? = some p := ⟨_, List.getElem?_eq_getElem hi⟩
    have hj := joined_succ hp
    refine boolK_dec_t (by omega) ?_
    refine needK_has (by (first | rfl | (simp; done) | (simp; omega))) ?_
    refine getK_has (v := row p) (by rw [mulE_eq, Int.toNat_natCast, Nat.mul_one, List.getElem?_map, hp]; rfl) ?_
    have hle := joined_le rows (i + 1)
    have hjl : (joined rows (i + 1)).length = (joined rows i).length + p.2.length := by rw [hj, List.length_append]
    refine eqK_has_eq ((joined rows (i + 1)).length : Int) (by rw [wrap_i64 (by omega) (by omega)]; omega) ?_
    refine boolK_dec_f (by omega) ?_
    refine eqK_has_eq _ (i64_succ (by omega)) ?_
    exact Has.intro ⟨⟨rfl, rfl, rfl, rfl, rfl, trivial⟩, rfl⟩
  refine boolK_dec_f (by omega) ?_
  refine Has.intro ?_
  refine callSK_has (grow_ok _ h0 h1) ?_
  refine needK_has rfl ?_
  refine loopK_has ?_
  refine iterE_up rows.length (fun i => [(6, .tsl 0 (joined rows i).length (bc (joined rows i))), (25, .pv (.sl x rows.length (rows.map row))), (26, .pv (.int .i64 rows.length)), (27, .pv (.int .i64 i))]) (fun i => [.tok (joined rows i).length 1]) (fun i hi r => ?_) (fun r => ?_) ⟨rfl, rfl, rfl, rfl, trivial⟩ rfl
  · obtain ⟨p, hp⟩ : ∃ p, rows[i]? = some p := ⟨_, List.getElem?_eq_getElem hi⟩
    have hj := joined_succ hp
    refine boolK_dec_t (by omega) ?_
    refine needK_has (by (first | rfl | (simp; done) | (simp; omega))) ?_
    refine getK_has (v := row p) (by rw [mulE_eq, Int.toNat_natCast, Nat.mul_one, List.getElem?_map, hp]; rfl) ?_
    have hle := joined_le rows (i + 1)
    have hjl : (joined rows (i + 1)).length = (joined rows i).length + p.2.length := by rw [hj, List.length_append]
    refine app_tsl (m := p.2.length) (new := bc p.2) rfl (by rw [bc_length, Nat.mul_one]) (by rw [bc_length, Nat.mul_one]) (by unfold mostBytes; omega) ?_
    refine eqK_has_eq _ (i64_succ (by omega)) ?_
    have e1 : (joined rows i).length + p.2.length = (joined rows (i + 1)).length := hjl.symm
    have e2 : bc (joined rows i) ++ bc p.2 = bc (joined rows (i + 1)) := by rw [hj, bc_append]
    rw [e1, e2]
    exact Has.intro ⟨⟨rfl, rfl, rfl, rfl, trivial⟩, rfl⟩
  refine boolK_dec_f (by omega) ?_
  exact Has.intro (Has.intro rfl)
end Go.Proofs.Ytflfdglnelbbiaa.W

namespace Go.Proofs.Ytflfdglnelbbiaa.W
open Go Go.VM

def magic : List UInt8 := [66, 82, 84, 72]
/-- A frame but for its sum. -/
def head (g : Nat) (body : List UInt8) : List UInt8 := magic ++ (bigB g 8 ++ (bigB body.length 4 ++ body))
def frame (g : Nat) (body : List UInt8) : List UInt8 := head g body ++ four8 (crc (head g body))
theorem head_len (g : Nat) (body : List UInt8) : (head g body).length = 16 + body.length := by
  simp [head, magic, bigB_len]; omega
theorem frame_len (g : Nat) (body : List UInt8) : (frame g body).length = 20 + body.length := by
  rw [frame, List.length_append, head_len]; simp [four8]; omega
def genP (gen : Int) : Prop := 1 ≤ gen ∧ gen ≤ 1152921504606846976
instance (gen : Int) : Decidable (genP gen) := by unfold genP; infer_instance
/-- What is put, where it may be. -/
def putB (gen : Int) (body : List UInt8) : List UInt8 := if genP gen ∧ body.length ≤ 65536 then frame gen.toNat body else []
def putE (gen : Int) (body : List UInt8) : Ext := if genP gen ∧ body.length ≤ 65536 then .nn else .nil
theorem app_tsl_hs {R : Type} {Q : R → Prop} {H : Heap} {F : AV → Heap → Option R} {t id m cap n : Nat} {cs new cells : List PV} (hk : hget H t = .tok n 1) (hi : hget H id = .pcells cells) (hs : (cells.drop 0).take (m * 1) = new) (hm : 0 + m * 1 ≤ cells.length) (hc : cs.length = n * 1) (hl : new.length = m * 1) (hb : (n + m) * 1 ≤ mostBytes)
    (k : Has (F (.tsl t (n + m) (cs ++ new)) (hset H t (.tok (n + m) 1))) Q) : Has (appS false 1 1 (.tsl t n cs) (.hs 1 id 0 m cap) H F) Q := by
  rw [appS_def]
  refine hgetK_has (.pcells cells) hi ?_
  refine secK_has hs hm ?_
  refine hgetK_has (.tok n 1) hk ?_
  refine needK_has (by simp) ?_
  refine needK_has ?_ ?_
  · simp only [Bool.and_eq_true]
    refine ⟨⟨Nat.ble_eq_true_of_le hb, ?_⟩, ?_⟩
    · rw [mulE_eq, hc]; exact Nat.beq_refl _
    · rw [mulE_eq, hl]; exact Nat.beq_refl _
  refine eqK_has ?_
  refine eqK_has ?_
  exact k
set_option maxHeartbeats 2000000 in
theorem put_ok (gen : Int) (hg : -9223372036854775808 ≤ gen ∧ gen ≤ 9223372036854775807) (x : Ext) (body : List UInt8) (hl : body.length ≤ 1000000) : EP (EE env) 25 [.int .i64 gen, .sl x body.length (bc body)] = some (.sl (putE gen body) (putB gen body).length (bc (putB gen body))) := by
  refine Has.eq (EP_has (fn_has rfl ?_))
  refine seq_on [(0, .pv (.int .i64 gen)), (1, .pv (.sl x body.length (bc body)))] [] (by (refine Has.intro ⟨rfl, ?_, rfl⟩; (repeat (first | exact trivial | refine ⟨rfl, ?_⟩)))) (fun r => ?_)
  refine seq_if [(4, .pv (.sl .nil 0 []))] (¬ (genP gen ∧ body.length ≤ 65536)) [(0, .pv (.int .i64 gen)), (1, .pv (.sl x body.length (bc body)))] (genP gen ∧ body.length ≤ 65536) [] ?_ (fun h r => ?_) (fun hp r => ?_)
  · refine boolK_dec (fun h1 => ?_) (fun h1 => ?_)
    · exact Has.intro (.inl ⟨rfl, ⟨rfl, trivial⟩, rfl, fun h => by have := h.1.1; omega⟩)
    refine boolK_dec (fun h2 => ?_) (fun h2 => ?_)
    · exact Has.intro (.inl ⟨rfl, ⟨rfl, trivial⟩, rfl, fun h => by have := h.1.2; omega⟩)
    refine boolK_dec (fun h3 => ?_) (fun h3 => ?_)
    · exact Has.intro (.inl ⟨rfl, ⟨rfl, trivial⟩, rfl, fun h => by have := h.2; omega⟩)
    · exact Has.intro (.inr ⟨rfl, ⟨rfl, rfl, trivial⟩, rfl, ⟨by omega, by omega⟩, by omega⟩)
  · unfold putE putB
    rw [if_neg h, if_neg h]
    exact Has.intro (Has.intro rfl)
  unfold putE putB
  rw [if_pos hp, if_pos hp]
  obtain ⟨g, rfl⟩ : ∃ g : Nat, gen = g := ⟨gen.toNat, by have := hp.1.1; omega⟩
  obtain ⟨⟨hg1, hg2⟩, hb⟩ := hp
  rw [Int.toNat_natCast]
  have hj : ∀ e1 e2 e3, joined [(e1, magic), (e2, bigB g 8), (e3, bigB body.length 4), (x, body)] 4 = head g body := fun e1 e2 e3 => by
    simp [joined, head]
  have hl4 : ∀ e1 e2 e3, [(e1, magic), (e2, bigB g 8), (e3, bigB body.length 4), (x, body)].length = 4 := fun _ _ _ => rfl
  refine seq_on [(5, .tsl 1 (head g body).length (bc (head g body)))] [.dead, .tok (head g body).length 1] ?_ (fun r => ?_)
  · refine hgetK_has _ rfl ?_
    refine needK_has rfl ?_
    refine eqK_has_eq (g : Int) (wrap_u64n (by omega)) ?_
    refine callPK_has (big_ok g 8 (by decide)) ?_
    refine eqK_has_eq (body.length : Int) (wrap_u64n (by omega)) ?_
    refine callPK_has (big_ok body.length 4 (by decide)) ?_
    have hcc := concat_ok .nnx [(.nn, magic), (.nn, bigB g 8), (.nn, bigB body.length 4), (x, body)] (by rw [hl4, hj, head_len]; omega) (by rw [hl4, hj, head_len]; omega) (show 4 ≤ 100 by decide)
    rw [hl4, hj] at hcc
    refine callSK_has hcc ?_
    refine needK_has (by simp) ?_
    exact Has.intro ⟨rfl, ⟨rfl, trivial⟩, rfl⟩
  have hhl := head_len g body
  have hfl := frame_len g body
  refine callPK_has (of1 .nnx .nn (head g body) (by rw [maxLen_eq]; omega)) ?_
  refine callPK_has (bytes_ok (crc (head g body))) ?_
  refine hgetK_last ?_
  refine needK_has rfl ?_
  refine eqK_has_eq (bc (four8 (crc (head g body)))) (four_eq _) ?_
  refine needK_has rfl ?_
  refine app_tsl_hs (m := 4) (new := bc (four8 (crc (head g body)))) (cells := bc (four8 (crc (head g body)))) rfl rfl rfl (by simp [bc_length, four8]) (by rw [bc_length, Nat.mul_one]) rfl (by unfold mostBytes; omega) ?_
  refine Has.intro (Has.intro ?_)
  show PV.sl .nn ((head g body).length + 4) (bc (head g body) ++ bc (four8 (crc (head g body)))) = PV.sl .nn (frame g body).length (bc (frame g body))
  rw [bc_append, hfl, hhl]
  congr 1
  omega
/-- What a clone is. -/
def cln (x : Ext) : Ext := match x with
  | .nil => .nil
  | _ => .nn
theorem str_beq (a b : List UInt8) : ((⟨a.toArray⟩ : ByteArray).toList == (⟨b.toArray⟩ : ByteArray).toList) = decide (a = b) := by
  rw [Bool.eq_iff_iff]; simp
theorem str_bne (a b : List UInt8) : (!((⟨a.toArray⟩ : ByteArray).toList == (⟨b.toArray⟩ : ByteArray).toList)) = decide (a ≠ b) := by
  rw [str_beq]; by_cases h : a = b <;> simp [h]
end Go.Proofs.Ytflfdglnelbbiaa.W

namespace Go.Proofs.Ytflfdglnelbbiaa.W
open Go Go.VM

/-- A row that may be nil only if it is empty. -/
def okX (x : Ext) (bs : List UInt8) : Prop := (x = .nil ∧ bs = []) ∨ x = .nn
def cx (bs : List UInt8) : Ext := match bs with
  | [] => .nnx
  | _ => .nn
def tx (x : Ext) (bs : List UInt8) : Ext := match x with
  | .nil => .nil
  | _ => cx bs
theorem clone_nn (bs : List UInt8) (hl : bs.length ≤ 1000000) : EP (EE env) 27 [.sl .nn bs.length (bc bs)] = some (.sl (cx bs) bs.length (bc bs)) := by
  refine Has.eq (EP_has ?_)
  cases bs with
  | nil =>
    refine app_none ?_
    exact Has.intro (Has.intro rfl)
  | cons b bs =>
    refine app_plain rfl rfl (by rw [bc_length, Nat.mul_one]) (by simp) (by show (0 + (b :: bs).length) * 1 ≤ 140737488355328; omega) ?_
    refine Has.intro (Has.intro ?_)
    show PV.sl .nn (0 + (b :: bs).length) ([] ++ bc (b :: bs)) = _
    rw [Nat.zero_add]; rfl
theorem clone_nil : EP (EE env) 27 [.sl .nil 0 []] = some (.sl .nil 0 []) := by
  refine Has.eq (EP_has ?_)
  exact Has.intro (Has.intro rfl)
theorem clone_ee (bs : List UInt8) (h0 : bs ≠ []) (hl : bs.length ≤ 1000000) : EE env (.fn 27) [.pv (.sl .nn bs.length (bc bs))] [] = some (.tsl 0 bs.length (bc bs), [.tok bs.length 1]) := by
  refine Has.eq (EE_has ?_)
  cases bs with
  | nil => exact absurd rfl h0
  | cons b bs =>
    refine app_plain rfl rfl (by rw [bc_length, Nat.mul_one]) (by simp) (by show (0 + (b :: bs).length) * 1 ≤ 140737488355328; omega) ?_
    refine Has.intro ?_
    show (AV.tsl 0 (0 + (b :: bs).length) ([] ++ bc (b :: bs)), [HObj.tok (0 + (b :: bs).length) 1]) = _
    rw [Nat.zero_add]; rfl
theorem clone_e0 : EE env (.fn 27) [.pv (.sl .nn 0 [])] [] = some (.pv (.sl .nnx 0 []), []) := by
  refine Has.eq (EE_has ?_)
  refine app_none ?_
  exact Has.intro rfl
theorem clone_en : EE env (.fn 27) [.pv (.sl .nil 0 [])] [] = some (.pv (.sl .nil 0 []), []) := by
  refine Has.eq (EE_has ?_)
  exact Has.intro rfl
/-- How much is torn off. -/
def cut (n : Int) (l : Nat) : Nat := min n.toNat l
def tornB (was fr : List UInt8) (n : Int) : List UInt8 := fr.take (min (cut n fr.length) was.length) ++ was.drop (min (cut n fr.length) was.length)
theorem tornB_len (was fr : List UInt8) (n : Int) : (tornB was fr n).length = was.length := by
  unfold tornB cut; simp; omega
theorem tornB_nil (fr : List UInt8) (n : Int) : tornB [] fr n = [] := by unfold tornB; simp
theorem mm_eq (n : Int) (l : Nat) : (if (if (l : Int) < n then (l : Int) else n) > 0 then (if (l : Int) < n then (l : Int) else n) else 0) = ((cut n l : Nat) : Int) := by
  unfold cut
  split <;> split <;> omega
theorem bc_flat (bs : List UInt8) : (bc bs).all PV.flat = true := by
  rw [List.all_eq_true]
  intro v hv
  obtain ⟨b, _, rfl⟩ := List.mem_map.1 hv
  rfl
theorem torn_cells (was fr : List UInt8) (n : Int) : (bc was).take 0 ++ (bc (fr.take (cut n fr.length))).take (mulE (min (cut n fr.length) was.length) 1) ++ (bc was).drop (0 + mulE (min (cut n fr.length) was.length) 1) = bc (tornB was fr n) := by
  unfold tornB
  rw [mulE_eq, Nat.mul_one, List.take_zero, List.nil_append, Nat.zero_add, bc_take, bc_drop, bc_append, List.take_take, Nat.min_eq_left (Nat.min_le_left _ _)]
end Go.Proofs.Ytflfdglnelbbiaa.W

namespace Go.Proofs.Ytflfdglnelbbiaa.W
open Go Go.VM

def gN (s : List UInt8) : Nat := num ((s.take 12).drop 4)
def nN (s : List UInt8) : Nat := num ((s.take 16).drop 12)
def bodyN (s : List UInt8) : List UInt8 := (s.take (16 + nN s)).drop 16
def getM (s : List UInt8) : Nat × List UInt8 × Int :=
  if s.length < 4 then (0, [], 10) else if s.take 4 ≠ magic then (0, [], 11) else if s.length < 16 then (0, [], 10)
  else if gN s < 1 ∨ gN s > 1152921504606846976 then (0, [], 11) else if nN s > 65536 then (0, [], 15) else if s.length < 20 + nN s then (0, [], 10)
  else if frame (gN s) (bodyN s) ≠ s.take (20 + nN s) then (0, [], 14) else (gN s, bodyN s, 0)
def getX (s : List UInt8) : Ext := if (getM s).2.2 = 0 then cx (getM s).2.1 else .nil
def getV (s : List UInt8) : PV := .tup [.int .i64 (getM s).1, .sl (getX s) (getM s).2.1.length (bc (getM s).2.1), .int .i64 (getM s).2.2]
theorem getV_err {s : List UInt8} {e : Int} (h : getM s = (0, [], e)) (he : e ≠ 0) : getV s = .tup [.int .i64 0, .sl .nil 0 [], .int .i64 e] := by
  unfold getV getX; rw [h, if_neg he]; rfl
theorem getV_ok {s b : List UInt8} {g : Nat} (h : getM s = (g, b, 0)) : getV s = .tup [.int .i64 g, .sl (cx b) b.length (bc b), .int .i64 0] := by
  unfold getV getX; rw [h, if_pos rfl]
theorem list4 {l : List UInt8} (h : l.length = 4) : ∃ a b c d, l = [a, b, c, d] := by
  match l, h with
  | [a, b, c, d], _ => exact ⟨a, b, c, d, rfl⟩
theorem valStep_u (x : BitVec 32) (c : UInt8) (hx : x.toNat < 16777216) : (valStep x c).toNat = x.toNat * 256 + c.toNat := by
  have := valStep_nat x c.toNat hx c.toBitVec.isLt
  rwa [UInt8.ofNat_toNat] at this
theorem val_num {l : List UInt8} (h : l.length = 4) : (val l).toNat = num l := by
  obtain ⟨a, b, c, d, rfl⟩ := list4 h
  have ha : a.toNat < 256 := a.toBitVec.isLt
  have hb : b.toNat < 256 := b.toBitVec.isLt
  have hc : c.toNat < 256 := c.toBitVec.isLt
  have h1 := valStep_u 0#32 a (by decide)
  have h1' : (valStep 0#32 a).toNat = a.toNat := by rw [h1]; simp
  have h2 := valStep_u (valStep 0#32 a) b (by omega)
  have h3 := valStep_u (valStep (valStep 0#32 a) b) c (by omega)
  have h4 := valStep_u (valStep (valStep (valStep 0#32 a) b) c) d (by omega)
  show (valStep (valStep (valStep (valStep 0#32 a) b) c) d).toNat = (((0 * 256 + a.toNat) * 256 + b.toNat) * 256 + c.toNat) * 256 + d.toNat
  rw [h4, h3, h2, h1']; omega
theorem four8_big (r : BitVec 32) : four8 r = bigB r.toNat 4 := by
  simp [four8, bigB]
theorem four8_val {l : List UInt8} (h : l.length = 4) : four8 (val l) = l := by
  rw [four8_big, val_num h]
  have := bigB_num l
  rwa [h] at this
theorem head_take {s : List UInt8} (h4 : s.take 4 = magic) (hl : 16 + nN s ≤ s.length) : head (gN s) (bodyN s) = s.take (16 + nN s) := by
  have hb : (bodyN s).length = nN s := by unfold bodyN; simp; omega
  unfold head
  rw [hb]
  have e1 : bigB (gN s) 8 = (s.take 12).drop 4 := by
    have := bigB_num ((s.take 12).drop 4)
    rwa [show ((s.take 12).drop 4).length = 8 by simp; omega] at this
  have e2 : bigB (nN s) 4 = (s.take 16).drop 12 := by
    have := bigB_num ((s.take 16).drop 12)
    rwa [show ((s.take 16).drop 12).length = 4 by simp; omega] at this
  rw [e1, e2, ← h4]
  unfold bodyN
  have p1 : s.take (16 + nN s) = s.take 16 ++ (s.take (16 + nN s)).drop 16 := by
    conv => lhs; rw [← List.take_append_drop 16 (s.take (16 + nN s)), List.take_take, Nat.min_eq_left (by omega)]
  have p2 : s.take 16 = s.take 12 ++ (s.take 16).drop 12 := by
    conv => lhs; rw [← List.take_append_drop 12 (s.take 16), List.take_take, Nat.min_eq_left (by omega)]
  have p3 : s.take 12 = s.take 4 ++ (s.take 12).drop 4 := by
    conv => lhs; rw [← List.take_append_drop 4 (s.take 12), List.take_take, Nat.min_eq_left (by omega)]
  conv => rhs; rw [p1, p2, p3]
  simp only [List.append_assoc]
/-- The sum that stands is the sum that is asked for. -/
theorem sum_iff {s : List UInt8} (h4 : s.take 4 = magic) (hl : 20 + nN s ≤ s.length) : frame (gN s) (bodyN s) = s.take (20 + nN s) ↔ val ((s.take (20 + nN s)).drop (16 + nN s)) = crc (s.take (16 + nN s)) := by
  have hh := head_take h4 (by omega)
  have ht : ((s.take (20 + nN s)).drop (16 + nN s)).length = 4 := by simp; omega
  have p : s.take (20 + nN s) = s.take (16 + nN s) ++ (s.take (20 + nN s)).drop (16 + nN s) := by
    conv => lhs; rw [← List.take_append_drop (16 + nN s) (s.take (20 + nN s)), List.take_take, Nat.min_eq_left (by omega)]
  unfold frame
  rw [hh]
  constructor
  · intro h
    have h2 := List.append_cancel_left (h.trans p)
    rw [← h2, val_four]
  · intro h
    rw [← h, four8_val ht]
    exact p.symm
theorem take_cells (l : List UInt8) {a b : Nat} (_h : a ≤ b) : ((bc l).drop (mulE a 1)).take (mulE (b - a) 1) = bc ((l.take b).drop a) := by
  rw [mulE_eq, mulE_eq, Nat.mul_one, Nat.mul_one, bc_drop, bc_take, List.drop_take]
theorem u64_i64 {n : Nat} (h : n ≤ 1152921504606846976) : IntKind.i64.wrap (n : Int) = n := wrap_i64 (by omega) (by omega)
/-- A row that is told apart from what stands beside it, or empty. -/
def okG (x : Ext) (bs : List UInt8) : Prop := bs = [] ∨ x = .nn
theorem okX.g {x : Ext} {bs : List UInt8} (h : okX x bs) : okG x bs := by
  rcases h with h | h
  · exact .inl h.2
  · exact .inr h
theorem number_n {x : Ext} {bs : List UInt8} {n : Nat} (h : bs.length = n) (h8 : n ≤ 8) : EP (EE env) 49 [.sl x n (bc bs)] = some (u64 (num bs)) := by
  subst h; exact number_ok x bs h8
theorem clone_n {bs : List UInt8} {n : Nat} (h : bs.length = n) (hl : n ≤ 1000000) : EP (EE env) 27 [.sl .nn n (bc bs)] = some (.sl (cx bs) bs.length (bc bs)) := by
  subst h; exact clone_nn bs hl
theorem of1_n {y x : Ext} {bs : List UInt8} {n : Nat} (h : bs.length = n) (hl : n ≤ 1000000) : EP (EE env) 48 [.sl y 1 [.sl x n (bc bs)]] = some (u32 (crc bs)) := by
  subst h; exact of1 y x bs (by rw [maxLen_eq]; omega)
set_option maxHeartbeats 2000000 in
theorem get_ok (x : Ext) (s : List UInt8) (hx : okG x s) (hl : s.length ≤ 1000000) : EP (EE env) 31 [.sl x s.length (bc s)] = some (getV s) := by
  refine Has.eq (EP_has ?_)
  refine boolK_dec (fun h1 => ?_) (fun h1 => ?_)
  · rw [getV_err (by unfold getM; rw [if_pos (by omega)]) (by decide)]
    exact Has.intro (Has.intro rfl)
  have hxn : x = .nn := by
    rcases hx with h | h
    · rw [h] at h1; simp at h1
    · exact h
  subst hxn
  refine needK_has (by simp; omega) ?_
  refine eqK_has_eq (bc (s.take 4)) (take_cells s (Nat.zero_le 4)) ?_
  have hs4 : (s.take 4).length = 4 := by simp; omega
  refine needK_has (by rw [bc_length, hs4]; rfl) ?_
  refine bindK_has (strOf_bc (s.take 4)) ?_
  refine boolK_has_eq (c := decide (s.take 4 ≠ magic)) (str_bne (s.take 4) magic) ?_
  by_cases h2 : s.take 4 ≠ magic
  · rw [decide_eq_true h2, getV_err (by unfold getM; rw [if_neg (by omega), if_pos h2]) (by decide)]
    exact Has.intro (Has.intro rfl)
  rw [decide_eq_false h2]
  refine boolK_dec (fun h3 => ?_) (fun h3 => ?_)
  · rw [getV_err (by unfold getM; rw [if_neg (by omega), if_neg h2, if_pos (by omega)]) (by decide)]
    exact Has.intro (Has.intro rfl)
  refine needK_has (by simp; omega) ?_
  refine needK_has (by simp) ?_
  refine eqK_has_eq (bc ((s.take 12).drop 4)) (take_cells s (by decide)) ?_
  refine callPK_has (number_n (by simp; omega) (by decide)) ?_
  refine needK_has (by simp; omega) ?_
  refine needK_has (by simp) ?_
  refine eqK_has_eq (bc ((s.take 16).drop 12)) (take_cells s (by decide)) ?_
  refine callPK_has (number_n (by simp; omega) (by decide)) ?_
  have h2' : s.take 4 = magic := Classical.not_not.1 h2
  have hN : getM s = if gN s < 1 ∨ gN s > 1152921504606846976 then (0, [], 11) else if nN s > 65536 then (0, [], 15) else if s.length < 20 + nN s then (0, [], 10)
      else if frame (gN s) (bodyN s) ≠ s.take (20 + nN s) then (0, [], 14) else (gN s, bodyN s, 0) := by
    unfold getM; rw [if_neg (by omega), if_neg h2, if_neg (by omega)]
  have hG : num ((s.take 12).drop 4) = gN s := rfl
  have hNN : num ((s.take 16).drop 12) = nN s := rfl
  rw [hG, hNN]
  refine boolK_dec (fun h4 => ?_) (fun h4 => ?_)
  · rw [getV_err (by rw [hN, if_pos (by omega)]) (by decide)]
    exact Has.intro (Has.intro rfl)
  refine boolK_dec (fun h5 => ?_) (fun h5 => ?_)
  · rw [getV_err (by rw [hN, if_pos (by omega)]) (by decide)]
    exact Has.intro (Has.intro rfl)
  rw [if_neg (by omega)] at hN
  refine boolK_dec (fun h6 => ?_) (fun h6 => ?_)
  · rw [getV_err (by rw [hN, if_pos (by omega)]) (by decide)]
    exact Has.intro (Has.intro rfl)
  rw [if_neg (by omega)] at hN
  refine eqK_has_eq _ (u64_i64 (by omega)) ?_
  have hsz := size_ok (nN s : Int)
  rw [if_pos (by omega)] at hsz
  refine callPK_has hsz ?_
  refine boolK_dec (fun h7 => ?_) (fun h7 => ?_)
  · rw [getV_err (by rw [hN, if_pos (by omega)]) (by decide)]
    exact Has.intro (Has.intro rfl)
  rw [if_neg (by omega)] at hN
  have hlen : 20 + nN s ≤ s.length := by omega
  have hsum := sum_iff h2' hlen
  refine eqK_has_eq _ (u64_i64 (by omega)) ?_
  refine eqK_has_eq ((16 + nN s : Nat) : Int) (by rw [wrap_i64 (by omega) (by omega)]; omega) ?_
  refine eqK_has_eq ((20 + nN s : Nat) : Int) (by rw [wrap_i64 (by omega) (by omega)]; omega) ?_
  refine needK_has (by simp; omega) ?_
  refine needK_has (by simp; omega) ?_
  refine eqK_has_eq (bc ((s.take (20 + nN s)).drop (16 + nN s))) (take_cells s (by simp; omega)) ?_
  have hT : ((s.take (20 + nN s)).drop (16 + nN s)).length = 4 := by simp; omega
  refine needK_has (by simp; omega) ?_
  refine secK_has (v := bc ((s.take (20 + nN s)).drop (16 + nN s))) (by rw [List.drop_zero, List.take_of_length_le (by rw [bc_length, hT]; exact Nat.le_refl 4)]) (by rw [bc_length, hT]; exact Nat.le_refl 4) ?_
  refine callPK_has (val_ok _ hT) ?_
  refine needK_has (by simp; omega) ?_
  refine eqK_has_eq (bc (s.take (16 + nN s))) (take_cells s (Nat.zero_le _)) ?_
  refine callPK_has (of1_n (by simp; omega) (by simp; omega)) ?_
  refine boolK_bne (fun h8 => ?_) (fun h8 => ?_)
  · rw [getV_err (by rw [hN, if_pos (fun h => h8 (by rw [hsum.1 h]))]) (by decide)]
    exact Has.intro (Has.intro rfl)
  have h9 : frame (gN s) (bodyN s) = s.take (20 + nN s) := hsum.2 (BitVec.eq_of_toNat_eq (by omega))
  rw [if_neg (fun h => h h9)] at hN
  refine eqK_has_eq _ (u64_i64 (by omega)) ?_
  refine needK_has (by simp; omega) ?_
  refine needK_has (by simp; omega) ?_
  refine eqK_has_eq (bc (bodyN s)) (take_cells s (by simp; omega)) ?_
  refine callPK_has (clone_n (by unfold bodyN; simp; omega) (by simp; omega)) ?_
  rw [getV_ok hN]
  exact Has.intro (Has.intro rfl)
end Go.Proofs.Ytflfdglnelbbiaa.W

namespace Go.Proofs.Ytflfdglnelbbiaa.W
open Go Go.VM

theorem mid {A B C : List UInt8} {a b : Nat} (ha : A.length = a) (hb : a + B.length = b) : ((A ++ (B ++ C)).take b).drop a = B := by
  subst ha; subst hb
  rw [List.take_length_add_append, List.drop_left, List.take_left]
theorem frame_get {g : Nat} {body : List UInt8} (h1 : 1 ≤ g) (h2 : g ≤ 1152921504606846976) (hb : body.length ≤ 65536) (rest : List UInt8) : getM (frame g body ++ rest) = (g, body, 0) := by
  have hs : frame g body ++ rest = magic ++ (bigB g 8 ++ (bigB body.length 4 ++ (body ++ (four8 (crc (head g body)) ++ rest)))) := by
    simp only [frame, head, List.append_assoc]
  have hfl := frame_len g body
  have hlen : (frame g body ++ rest).length = 20 + body.length + rest.length := by rw [List.length_append, hfl]
  have m4 : (frame g body ++ rest).take 4 = magic := by rw [hs]; rfl
  have e1 : gN (frame g body ++ rest) = g := by
    unfold gN
    rw [hs, mid (a := 4) (b := 12) rfl (by rw [bigB_len]), num_bigB]
    exact Nat.mod_eq_of_lt (Nat.lt_of_le_of_lt h2 (by decide))
  have e2 : nN (frame g body ++ rest) = body.length := by
    unfold nN
    rw [hs, ← List.append_assoc magic, mid (a := 12) (b := 16) (by rw [List.length_append, bigB_len]; rfl) (by rw [bigB_len]), num_bigB]
    exact Nat.mod_eq_of_lt (Nat.lt_of_le_of_lt hb (by decide))
  have e3 : bodyN (frame g body ++ rest) = body := by
    unfold bodyN
    rw [e2, hs, ← List.append_assoc magic, ← List.append_assoc (magic ++ bigB g 8)]
    exact mid (by rw [List.length_append, List.length_append, bigB_len, bigB_len]; rfl) rfl
  have e4 : (frame g body ++ rest).take (20 + body.length) = frame g body := by
    rw [← hfl, List.take_left]
  unfold getM
  rw [if_neg (by omega), if_neg (fun h => h m4), if_neg (by omega), e1, e2, e3, e4, if_neg (by omega), if_neg (by omega), if_neg (by omega), if_neg (fun h => h rfl)]
theorem frame_get0 {g : Nat} {body : List UInt8} (h1 : 1 ≤ g) (h2 : g ≤ 1152921504606846976) (hb : body.length ≤ 65536) : getM (frame g body) = (g, body, 0) := by
  have := frame_get h1 h2 hb []
  rwa [List.append_nil] at this
abbrev F5 : List UInt8 := frame 5 [97, 98]
end Go.Proofs.Ytflfdglnelbbiaa.W

namespace Go.Proofs.Ytflfdglnelbbiaa.Di
open Go Go.VM

/-- All but these objects stays. -/
def Kp (l : List Nat) (H H' : Heap) : Prop := H.length ≤ H'.length ∧ ∀ i, i < H.length → i ∉ l → hget H' i = hget H i
theorem Kp.refl (l : List Nat) (H : Heap) : Kp l H H := ⟨Nat.le_refl _, fun _ _ _ => rfl⟩
theorem Kp.trans {l l' : List Nat} {H H1 H2 : Heap} (h1 : Kp l H H1) (h2 : Kp l' H1 H2) (hl : ∀ i ∈ l', i ∈ l ∨ H.length ≤ i) : Kp l H H2 :=
  ⟨Nat.le_trans h1.1 h2.1, fun i hi hn => (h2.2 i (Nat.lt_of_lt_of_le hi h1.1) fun hm => by
    rcases hl i hm with h | h
    · exact hn h
    · omega).trans (h1.2 i hi hn)⟩
theorem Kp.app (H L : Heap) : Kp [] H (H ++ L) := ⟨by simp, fun i hi _ => hget_app L hi⟩
theorem Kp.set (H : Heap) (p : Nat) (o : HObj) : Kp [p] H (hset H p o) := ⟨by rw [hset_len]; exact Nat.le_refl _, fun i _ hn => hget_hset_ne _ _ (fun e => hn (by simp [e]))⟩
theorem Kp.more {l l' : List Nat} {H H' : Heap} (h : Kp l H H') (hl : ∀ i ∈ l, i ∈ l') : Kp l' H H' := ⟨h.1, fun i hi hn => h.2 i hi fun hm => hn (hl i hm)⟩
theorem Kp.get {l : List Nat} {H H' : Heap} (h : Kp l H H') {i : Nat} {o : HObj} (hg : hget H i = o) (ho : o ≠ .dead) (hn : i ∉ l) : hget H' i = o := (h.2 i (hget_lt hg ho) hn).trans hg

structure Dk where
  a : Nat → Nat
  n : Nat
  left : Int
  down : Bool
  wr : Int
  W : AV
  k : Nat
def dobj (d : Dk) : HObj := .cells [.hs 1 (d.a 0) 0 d.n d.n, .hs 1 (d.a 1) 0 d.n d.n, .pv (.int .i64 d.left), .pv (.bool d.down), .pv (.int .i64 d.wr), d.W]
structure DkOK (H : Heap) (D : Nat) (d : Dk) (S : Nat → List UInt8) : Prop where
  obj : hget H D = dobj d
  row : ∀ i, i < 2 → hget H (d.a i) = .pcells (bc (S i)) ∧ (S i).length = d.n
  app : ∃ ws, AppV H d.W .nil 1 d.k ws
  ne : d.a 0 ≠ d.a 1
/-- The objects of a disk. -/
def dids (D : Nat) (d : Dk) : List Nat := D :: d.a 0 :: d.a 1 :: (tokOf d.W).toList
theorem DkOK.rne {H : Heap} {D : Nat} {d : Dk} {S : Nat → List UInt8} (h : DkOK H D d S) {i : Nat} (hi : i < 2) : d.a i ≠ D := by
  intro e
  have h1 := (h.row i hi).1
  rw [e, h.obj] at h1
  cases h1
theorem DkOK.ids {H : Heap} {D : Nat} {d : Dk} {S : Nat → List UInt8} (h : DkOK H D d S) : ∀ i ∈ dids D d, i < H.length := by
  intro i hi
  unfold dids at hi
  simp only [List.mem_cons] at hi
  rcases hi with rfl | rfl | rfl | hi
  · exact hget_lt h.obj (by intro h; cases h)
  · exact hget_lt (h.row 0 (by decide)).1 (by intro h; cases h)
  · exact hget_lt (h.row 1 (by decide)).1 (by intro h; cases h)
  · obtain ⟨ws, h1⟩ := h.app
    rcases h1 with ⟨_, _, h1, _⟩ | ⟨_, _, t, h1, h2⟩
    · rw [h1] at hi; simp [tokOf] at hi
    · rw [h1] at hi; simp [tokOf] at hi; subst hi
      exact hget_lt h2 (by intro h; cases h)
/-- What does not touch a disk leaves it. -/
theorem DkOK.kp {H H' : Heap} {D : Nat} {d : Dk} {S : Nat → List UInt8} (h : DkOK H D d S) {l : List Nat} (hk : Kp l H H') (hl : ∀ i ∈ dids D d, i ∉ l) : DkOK H' D d S := by
  obtain ⟨ws, hw⟩ := h.app
  refine ⟨hk.get h.obj (by intro h; cases h) (hl _ (by simp [dids])), fun i hi => ⟨hk.get (h.row i hi).1 (by intro h; cases h) (hl _ ?_), (h.row i hi).2⟩, ⟨ws, ?_⟩, h.ne⟩
  · have : i = 0 ∨ i = 1 := by omega
    rcases this with rfl | rfl <;> simp [dids]
  · rcases hw with h1 | ⟨h1, h2, t, h3, h4⟩
    · exact .inl h1
    · exact .inr ⟨h1, h2, t, h3, hk.get h4 (by intro h; cases h) (hl _ (by simp [dids, h3, tokOf]))⟩
theorem DkOK.more {H : Heap} {D : Nat} {d : Dk} {S : Nat → List UInt8} (h : DkOK H D d S) (L : Heap) : DkOK (H ++ L) D d S := h.kp (Kp.app H L) fun _ _ h => by cases h
/-- Numbers and flags are changed. -/
theorem DkOK.upd {H : Heap} {D : Nat} {d : Dk} {S : Nat → List UInt8} (h : DkOK H D d S) (left : Int) (down : Bool) (wr : Int) : DkOK (hset H D (dobj { d with left := left, down := down, wr := wr })) D { d with left := left, down := down, wr := wr } S := by
  obtain ⟨ws, hw⟩ := h.app
  exact ⟨hget_hset_same _ (hget_lt h.obj (by intro h; cases h)), fun i hi => ⟨(hget_hset_ne _ _ (h.rne hi)).trans (h.row i hi).1, (h.row i hi).2⟩, ⟨ws, AppV_put hw _ h.obj (fun _ _ h => by cases h)⟩, h.ne⟩
/-- A slot is changed. -/
def upS (S : Nat → List UInt8) (i : Nat) (b : List UInt8) : Nat → List UInt8 := fun j => if j = i then b else S j
theorem DkOK.slot {H : Heap} {D : Nat} {d : Dk} {S : Nat → List UInt8} (h : DkOK H D d S) {i : Nat} (hi : i < 2) {b : List UInt8} (hb : b.length = d.n) : DkOK (hset H (d.a i) (.pcells (bc b))) D d (upS S i b) := by
  obtain ⟨ws, hw⟩ := h.app
  have hr := (h.row i hi).1
  refine ⟨(hget_hset_ne _ _ (h.rne hi).symm).trans h.obj, fun j hj => ?_, ⟨ws, AppV_put hw _ hr (fun _ _ h => by cases h)⟩, h.ne⟩
  by_cases hji : j = i
  · subst hji
    exact ⟨by simp only [upS, if_true]; exact hget_hset_same _ (hget_lt hr (by intro h; cases h)), by simp [upS, hb]⟩
  · have hne : d.a j ≠ d.a i := by
      have h1 : i = 0 ∨ i = 1 := by omega
      have h2 : j = 0 ∨ j = 1 := by omega
      have := h.ne
      rcases h1 with rfl | rfl <;> rcases h2 with rfl | rfl
      · exact absurd rfl hji
      · exact this.symm
      · exact this
      · exact absurd rfl hji
    simp only [upS, hji, if_false]
    exact ⟨(hget_hset_ne _ _ hne).trans (h.row j hj).1, (h.row j hj).2⟩

theorem new_disk (n : Nat) (h1 : 16 ≤ n) (h2 : n ≤ 262144) (H : Heap) :
    ∃ H', EE env (.fn 6) [.pv (.int .i64 n)] H = some (.tup [.ptr (H.length + 2) 0, .pv (.int .i64 0)], H') ∧ DkOK H' (H.length + 2) ⟨fun i => H.length + i, n, -1, false, 0, .pv (.sl .nil 0 []), 0⟩ (fun _ => List.replicate n 0) ∧ Kp [] H H' := by
  refine ⟨H ++ [.pcells (bc (List.replicate n 0)), .pcells (bc (List.replicate n 0)), dobj ⟨fun i => H.length + i, n, -1, false, 0, .pv (.sl .nil 0 []), 0⟩], ?_, ?_, Kp.app _ _⟩
  · refine Has.eq (EE_has ?_)
    refine boolK_dec_f (by omega) ?_
    refine boolK_dec_f (by omega) ?_
    refine needK_has (by simp; omega) ?_
    refine eqK_has_eq (bc (List.replicate n 0)) (by rw [Int.toNat_natCast]; exact bc_zeros n) ?_
    refine needK_has (by simp; omega) ?_
    refine eqK_has_eq (bc (List.replicate n 0)) (by rw [Int.toNat_natCast]; exact bc_zeros n) ?_
    refine sameK_has rfl rfl ?_
    refine sameK_has rfl rfl ?_
    refine Has.intro ?_
    obtain ⟨Z, hZ⟩ : ∃ Z, Z = HObj.pcells (bc (List.replicate n 0)) := ⟨_, rfl⟩
    show (AV.tup [.ptr ((H ++ [HObj.pcells (bc (List.replicate n 0))]) ++ [HObj.pcells (bc (List.replicate n 0))]).length 0, .pv (.int .i64 0)], ((H ++ [HObj.pcells (bc (List.replicate n 0))]) ++ [HObj.pcells (bc (List.replicate n 0))]) ++ [HObj.cells [.hs 1 H.length 0 n n, .hs 1 (H ++ [HObj.pcells (bc (List.replicate n 0))]).length 0 n n, .pv (.int .i64 (-1)), .pv (.bool false), .pv (.int .i64 0), .pv (.sl .nil 0 [])]]) = _
    rw [← hZ]
    simp [dobj]
  · have g : ∀ j, j < 3 → hget (H ++ [HObj.pcells (bc (List.replicate n 0)), .pcells (bc (List.replicate n 0)), dobj ⟨fun i => H.length + i, n, -1, false, 0, .pv (.sl .nil 0 []), 0⟩]) (H.length + j) = hget [HObj.pcells (bc (List.replicate n 0)), .pcells (bc (List.replicate n 0)), dobj ⟨fun i => H.length + i, n, -1, false, 0, .pv (.sl .nil 0 []), 0⟩] j := by
      intro j _
      rw [hget_eq, hget_eq, List.getElem?_append_right (by omega)]
      congr 2; omega
    refine ⟨g 2 (by omega), fun i hi => ⟨?_, by simp⟩, ⟨[], AppV.new rfl⟩, by simp⟩
    have : i = 0 ∨ i = 1 := by omega
    rcases this with rfl | rfl
    · exact g 0 (by omega)
    · exact g 1 (by omega)
variable {H : Heap} {D : Nat} {d : Dk} {S : Nat → List UInt8}
theorem size_disk (h : DkOK H D d S) : EE env (.fn 20) [.ptr D 0] H = some (.pv (.int .i64 d.n), H) := by
  refine Has.eq (EE_has ?_)
  refine needK_has (by decide) ?_
  refine hgetK_has _ h.obj ?_
  exact Has.intro rfl
theorem able_ok (h : DkOK H D d S) (hd : d.down = false) (i : Nat) (hi : i = 0 ∨ i = 1) : EE env (.fn 28) [.ptr D 0, .pv (.int .i64 i)] H = some (.pv (.int .i64 0), H) := by
  obtain ⟨a, n, left, down, wr, W, k⟩ := d
  simp only at hd
  subst hd
  refine Has.eq (EE_has ?_)
  refine hgetK_has _ h.obj ?_
  rcases hi with rfl | rfl
  · refine boolK_dec_f (by decide) ?_
    refine boolK_dec_f (by decide) ?_
    exact Has.intro rfl
  · refine boolK_dec_f (by decide) ?_
    refine boolK_dec_f (by decide) ?_
    exact Has.intro rfl
theorem down_disk (h : DkOK H D d S) : EE env (.fn 21) [.ptr D 0] H = some (.pv (.bool d.down), H) := by
  refine Has.eq (EE_has ?_)
  refine hgetK_has _ h.obj ?_
  exact Has.intro rfl
theorem arm_ok (h : DkOK H D d S) : EE env (.fn 16) [.ptr D 0, .pv (.int .i64 3)] H = some (.pv (.tup []), hset H D (dobj { d with left := 3, down := d.down, wr := d.wr })) := by
  refine Has.eq (EE_has ?_)
  refine eqK_has_eq 3 (by decide) ?_
  refine hgetK_has _ h.obj ?_
  exact Has.intro rfl
theorem up_ok (h : DkOK H D d S) : EE env (.fn 17) [.ptr D 0] H = some (.pv (.tup []), hset (hset H D (dobj { d with left := d.left, down := false, wr := d.wr })) D (dobj { d with left := -1, down := false, wr := d.wr })) := by
  refine Has.eq (EE_has ?_)
  refine hgetK_has _ h.obj ?_
  refine hgetK_has _ (h.upd d.left false d.wr).obj ?_
  exact Has.intro rfl
theorem all_bc {bs : List UInt8} {n : Nat} (hl : bs.length = n) : ((bc bs).drop 0).take (n * 1) = bc bs := by
  rw [List.drop_zero]; exact List.take_of_length_le (by rw [bc_length]; omega)
theorem image_ok (h : DkOK H D d S) (hn : 1 ≤ d.n ∧ d.n ≤ 1000000) (i : Nat) (hi : i = 0 ∨ i = 1) : EE env (.fn 32) [.ptr D 0, .pv (.int .i64 i)] H = some (.pv (.sl .nn d.n (bc (S i))), H) := by
  have h0 := h.row 0 (by decide)
  have h1 := h.row 1 (by decide)
  have e0 : S 0 ≠ [] := by intro e; rw [e] at h0; simp at h0; omega
  have e1 : S 1 ≠ [] := by intro e; rw [e] at h1; simp at h1; omega
  have c0 := W.clone_ee (S 0) e0 (by omega)
  have c1 := W.clone_ee (S 1) e1 (by omega)
  rw [h0.2] at c0
  rw [h1.2] at c1
  refine Has.eq (EE_has ?_)
  rcases hi with rfl | rfl
  · refine boolK_dec_f (by decide) ?_
    refine boolK_dec_f (by decide) ?_
    refine needK_has (by decide) ?_
    refine hgetK_has _ h.obj ?_
    refine hgetK_has _ h0.1 ?_
    refine secK_has (v := bc (S 0)) (all_bc h0.2) (by rw [bc_length]; omega) ?_
    refine callSK_has c0 ?_
    refine needK_has (by simp) ?_
    refine needK_has (W.bc_flat _) ?_
    exact Has.intro rfl
  · refine boolK_dec_f (by decide) ?_
    refine boolK_dec_f (by decide) ?_
    refine needK_has (by decide) ?_
    refine hgetK_has _ h.obj ?_
    refine hgetK_has _ h1.1 ?_
    refine secK_has (v := bc (S 1)) (all_bc h1.2) (by rw [bc_length]; omega) ?_
    refine callSK_has c1 ?_
    refine needK_has (by simp) ?_
    refine needK_has (W.bc_flat _) ?_
    exact Has.intro rfl
end Go.Proofs.Ytflfdglnelbbiaa.Di

namespace Go.Proofs.Ytflfdglnelbbiaa.Di
open Go Go.VM

theorem clone_x (x : Ext) (hx : x = .nn ∨ x = .nnx) (bs : List UInt8) (hl : bs.length ≤ 1000000) : EP (EE env) 27 [.sl x bs.length (bc bs)] = some (.sl (W.cx bs) bs.length (bc bs)) := by
  rcases hx with rfl | rfl
  · exact W.clone_nn bs hl
  refine Has.eq (EP_has ?_)
  cases bs with
  | nil =>
    refine app_none ?_
    exact Has.intro (Has.intro rfl)
  | cons b bs =>
    refine app_plain rfl rfl (by rw [bc_length, Nat.mul_one]) (by simp) (by show (0 + (b :: bs).length) * 1 ≤ 140737488355328; omega) ?_
    refine Has.intro (Has.intro ?_)
    show PV.sl .nn (0 + (b :: bs).length) ([] ++ bc (b :: bs)) = _
    rw [Nat.zero_add]; rfl
theorem tok_ids {D : Nat} {d : Dk} {i : Nat} (h : tokOf d.W = some i) : i ∈ dids D d := by simp [dids, h]
/-- What was to be written is kept. -/
theorem DkOK.wr {H H1 : Heap} {D : Nat} {d : Dk} {S : Nat → List UInt8} (h : DkOK H D d S) {W' : AV} {k' : Nat} {ws : List PV} (hw : AppV H1 W' .nil 1 k' ws) (hf : Fr d.W H H1) (ht : tokOf W' = tokOf d.W ∨ tokOf W' = some H.length) :
    DkOK (hset H1 D (dobj { d with W := W', k := k' })) D { d with W := W', k := k' } S ∧ Kp (dids D d) H (hset H1 D (dobj { d with W := W', k := k' })) := by
  obtain ⟨ws0, hw0⟩ := h.app
  have o1 := Fr.obj hw0 hf h.obj (by intro h; cases h) (fun _ _ h => by cases h)
  refine ⟨⟨hget_hset_same _ (hget_lt o1 (by intro h; cases h)), fun i hi => ⟨(hget_hset_ne _ _ (h.rne hi)).trans (Fr.obj hw0 hf (h.row i hi).1 (by intro h; cases h) (fun _ _ h => by cases h)), (h.row i hi).2⟩, ⟨ws, AppV_put hw _ o1 (fun _ _ h => by cases h)⟩, h.ne⟩, ?_⟩
  refine ⟨by rw [hset_len]; exact hf.1, fun i hi hn => ?_⟩
  rw [hget_hset_ne _ _ (fun e => hn (by simp [dids, e]))]
  exact hf.2 i hi fun hh => hn (tok_ids hh)
theorem slot_cells (was b : List UInt8) (m : Nat) (hm : m ≤ b.length) (hb : b.length ≤ was.length) : (bc was).take 0 ++ (bc (b.take m)).take (mulE (min m was.length) 1) ++ (bc was).drop (0 + mulE (min m was.length) 1) = bc (b.take m ++ was.drop m) := by
  have e : min m was.length = m := by omega
  rw [e, mulE_eq, Nat.mul_one, List.take_zero, List.nil_append, Nat.zero_add, bc_take, bc_drop, bc_append, List.take_take, Nat.min_self]
set_option maxHeartbeats 4000000 in
theorem write_ok {H : Heap} {D : Nat} {d : Dk} {S : Nat → List UInt8} (h : DkOK H D d S) (hn : 1 ≤ d.n ∧ d.n ≤ 262144) (i : Nat) (hi : i = 0 ∨ i = 1) (hdn : d.down = false) (x : Ext) (hx : x = .nn ∨ x = .nnx) (b : List UInt8) (hb : b.length ≤ d.n) (hk : d.k ≤ 100000)
    (m : Nat) (dn : Bool) (hm : (d.left = -1 ∧ m = b.length ∧ dn = false) ∨ (d.left = 3 ∧ m = 3 ∧ 3 ≤ b.length ∧ dn = true)) :
    Has (EE env (.fn 12) [.ptr D 0, .pv (.int .i64 i), .pv (.sl x b.length (bc b))] H) fun y => y.1 = .pv (.int .i64 (bif dn then 26 else 0)) ∧ ∃ left wr Wv, DkOK y.2 D ⟨d.a, d.n, left, dn, wr, Wv, d.k + 1⟩ (upS S i (b.take m ++ (S i).drop m)) ∧
      Kp (dids D d) H y.2 ∧ (dn = false → left = -1) ∧ ∃ t, tokOf Wv = some t ∧ (tokOf d.W = some t ∨ H.length ≤ t) := by
  have hmb : m ≤ b.length := by omega
  have hi2 : i < 2 := by omega
  refine EE_has (fn_has rfl ?_)
  refine seq_on ([(0, .ptr D 0), (1, .pv (.int .i64 i)), (2, .pv (.sl x b.length (bc b)))]) H (by (refine Has.intro ⟨rfl, ?_, rfl⟩; (repeat (first | exact trivial | refine ⟨rfl, ?_⟩)))) (fun r => ?_)
  refine seq_on ([(0, .ptr D 0), (1, .pv (.int .i64 i)), (2, .pv (.sl x b.length (bc b)))]) H ?_ (fun r => ?_)
  · refine callSK_has (able_ok h hdn i hi) ?_
    refine boolK_bne_f rfl ?_
    (refine Has.intro ⟨rfl, ?_, rfl⟩; (repeat (first | exact trivial | refine ⟨rfl, ?_⟩)))
  refine seq_on ([(0, .ptr D 0), (1, .pv (.int .i64 i)), (2, .pv (.sl x b.length (bc b)))]) H ?_ (fun r => ?_)
  · refine callSK_has (size_disk h) ?_
    refine boolK_dec_f (by omega) ?_
    (refine Has.intro ⟨rfl, ?_, rfl⟩; (repeat (first | exact trivial | refine ⟨rfl, ?_⟩)))
  refine seq_st (σ := Heap × AV) (fun _ => ([(0, .ptr D 0), (1, .pv (.int .i64 i)), (2, .pv (.sl x b.length (bc b)))])) (fun s => s.1) (fun s => DkOK s.1 D ⟨d.a, d.n, d.left, d.down, d.wr, s.2, d.k + 1⟩ S ∧ Kp (dids D d) H s.1 ∧ ∃ t, tokOf s.2 = some t ∧ (tokOf d.W = some t ∨ H.length ≤ t)) ?_ (fun s hs r => ?_)
  · obtain ⟨a, n, left, down, wr, Wv, k⟩ := d
    obtain ⟨ws, hw⟩ := h.app
    have hob := h.obj
    simp only at hn hdn hb hk hm hw hob
    have fin : ∀ v' H', AppV H' v' .nil 1 (k + 1) (ws ++ [PV.sl (W.cx b) b.length (bc b)]) → Fr Wv H H' → (tokOf v' = tokOf Wv ∨ tokOf v' = some H.length) → ∃ t, v' = .tsl t (k + 1) (ws ++ [PV.sl (W.cx b) b.length (bc b)]) ∧ hget H' D = dobj ⟨a, n, left, down, wr, Wv, k⟩ ∧
        DkOK (hset H' D (dobj ⟨a, n, left, down, wr, v', k + 1⟩)) D ⟨a, n, left, down, wr, v', k + 1⟩ S ∧ Kp (dids D ⟨a, n, left, down, wr, Wv, k⟩) H (hset H' D (dobj ⟨a, n, left, down, wr, v', k + 1⟩)) ∧ (tokOf Wv = some t ∨ H.length ≤ t) := by
      intro v' H' q1 q2 q3
      obtain ⟨p1, p2⟩ := h.wr q1 q2 q3
      have o1 := Fr.obj hw q2 hob ((by intro h; cases h)) (fun _ _ h => by cases h)
      rcases q1 with ⟨q, _⟩ | ⟨_, _, t, q, _⟩
      · omega
      · subst q
        refine ⟨t, rfl, o1, p1, p2, ?_⟩
        rcases q3 with q3 | q3
        · exact .inl q3.symm
        · right; injection q3 with q3; omega
    rcases hw with ⟨rfl, rfl, rfl, _⟩ | ⟨hk0, hl, t, rfl, ht⟩
    · refine hgetK_has _ hob ?_
      refine callPK_has (clone_x x hx b (by omega)) ?_
      refine app_has (AppV.new (e := .nil) (es := 1) rfl) (m := 1) (by rfl) (by show (0 + 1) * 24 ≤ 140737488355328; omega) (fun v' H' q1 q2 q3 => ?_)
      obtain ⟨t, rfl, p1, p2, p3, p4⟩ := fin v' H' q1 q2 q3
      refine hgetK_has _ p1 ?_
      exact Has.intro ⟨rfl, (_, _), ⟨p2, p3, t, rfl, p4⟩, ⟨rfl, rfl, rfl, trivial⟩, rfl⟩
    · refine hgetK_has _ hob ?_
      refine callPK_has (clone_x x hx b (by omega)) ?_
      refine app_has (e := .nil) (cs := ws) (n := k) (.inr ⟨hk0, hl, t, rfl, ht⟩) (m := 1) (by rfl) (by show (k + 1) * 24 ≤ 140737488355328; omega) (fun v' H' q1 q2 q3 => ?_)
      obtain ⟨t', rfl, p1, p2, p3, p4⟩ := fin v' H' q1 q2 q3
      refine hgetK_has _ p1 ?_
      exact Has.intro ⟨rfl, (_, _), ⟨p2, p3, t', rfl, p4⟩, ⟨rfl, rfl, rfl, trivial⟩, rfl⟩
  obtain ⟨H1, W1⟩ := s
  obtain ⟨h1, k1, t1⟩ := hs
  simp only at h1 k1 t1 ⊢
  refine seq_on [(0, .ptr D 0), (1, .pv (.int .i64 i)), (2, .pv (.sl x b.length (bc b))), (8, .pv (.int .i64 b.length))] H1 (by (refine Has.intro ⟨rfl, ?_, rfl⟩; (repeat (first | exact trivial | refine ⟨rfl, ?_⟩)))) (fun r => ?_)
  refine seq_st (σ := Heap) (fun _ => ([(0, .ptr D 0), (1, .pv (.int .i64 i)), (2, .pv (.sl x b.length (bc b))), (8, .pv (.int .i64 m))])) (fun s => s) (fun s => DkOK s D ⟨d.a, d.n, d.left, dn, d.wr, W1, d.k + 1⟩ S ∧ Kp (dids D d) H s) ?_ (fun H2 hs r => ?_)
  · rw [hdn] at h1
    rcases hm with ⟨e1, e2, e3⟩ | ⟨e1, e2, e4, e3⟩
    · rw [e1] at h1 ⊢
      rw [e2, e3]
      refine hgetK_has _ h1.obj ?_
      refine boolK_dec_f (by show ¬ ((-1 : Int) ≥ 0); decide) ?_
      exact Has.intro ⟨rfl, H1, ⟨h1, k1⟩, ⟨rfl, rfl, rfl, rfl, trivial⟩, rfl⟩
    · rw [e1] at h1 ⊢
      rw [e2, e3]
      refine hgetK_has _ h1.obj ?_
      refine boolK_dec_t (by show (3 : Int) ≥ 0; decide) ?_
      refine hgetK_has _ h1.obj ?_
      refine boolK_dec_t (by show (3 : Int) ≤ b.length; omega) ?_
      refine hgetK_has _ h1.obj ?_
      refine hgetK_has _ h1.obj ?_
      refine Has.intro ⟨rfl, _, ⟨h1.upd 3 true d.wr, k1.trans (Kp.set _ _ _) (by intro j hj; simp at hj; subst hj; left; simp [dids])⟩, ⟨rfl, rfl, rfl, rfl, trivial⟩, rfl⟩
  obtain ⟨h2, k2⟩ := hs
  refine seq_st (σ := Heap) (fun _ => [(0, .ptr D 0), (8, .pv (.int .i64 m))]) (fun s => s) (fun s => DkOK s D ⟨d.a, d.n, d.left, dn, d.wr, W1, d.k + 1⟩ (upS S i (b.take m ++ (S i).drop m)) ∧ Kp (dids D d) H s) ?_ (fun H3 hs r => ?_)
  · have hrow := h2.row i hi2
    simp only at hrow
    have hbl : b.length ≤ (S i).length := by rw [hrow.2]; exact hb
    have hlen : (b.take m ++ (S i).drop m).length = d.n := by rw [List.length_append, List.length_take, List.length_drop, hrow.2]; omega
    have g1 := h2.slot hi2 (b := b.take m ++ (S i).drop m) hlen
    have g2 : Kp (dids D d) H (hset H2 (d.a i) (.pcells (bc (b.take m ++ (S i).drop m)))) := k2.trans (Kp.set _ _ _) (by
      intro j hj; simp at hj; subst hj; left
      rcases hi with rfl | rfl <;> simp [dids])
    refine needK_has (by simp; omega) ?_
    refine hgetK_has _ h2.obj ?_
    rcases hi with rfl | rfl
    · refine needK_has (by simp; omega) ?_
      refine eqK_has_eq (bc (b.take m)) (by rw [mulE_eq, mulE_eq, Int.toNat_natCast, Nat.zero_mul, List.drop_zero, Nat.sub_zero, Nat.mul_one, bc_take]) ?_
      refine hgetK_has _ hrow.1 ?_
      refine needK_has (by simp [bc_length, mulE_eq]; omega) ?_
      refine eqK_has_eq (min m (S 0).length) (by rw [hrow.2, Int.toNat_natCast]; rfl) ?_
      refine eqK_has_eq (bc (b.take m ++ (S 0).drop m)) (slot_cells (S 0) b m hmb hbl) ?_
      exact Has.intro ⟨rfl, _, ⟨g1, g2⟩, ⟨rfl, rfl, trivial⟩, rfl⟩
    · refine needK_has (by simp; omega) ?_
      refine eqK_has_eq (bc (b.take m)) (by rw [mulE_eq, mulE_eq, Int.toNat_natCast, Nat.zero_mul, List.drop_zero, Nat.sub_zero, Nat.mul_one, bc_take]) ?_
      refine hgetK_has _ hrow.1 ?_
      refine needK_has (by simp [bc_length, mulE_eq]; omega) ?_
      refine eqK_has_eq (min m (S 1).length) (by rw [hrow.2, Int.toNat_natCast]; rfl) ?_
      refine eqK_has_eq (bc (b.take m ++ (S 1).drop m)) (slot_cells (S 1) b m hmb hbl) ?_
      exact Has.intro ⟨rfl, _, ⟨g1, g2⟩, ⟨rfl, rfl, trivial⟩, rfl⟩
  obtain ⟨h3, k3⟩ := hs
  refine seq_st (σ := Heap × Int) (fun _ => [(0, .ptr D 0), (8, .pv (.int .i64 m))]) (fun s => s.1) (fun s => DkOK s.1 D ⟨d.a, d.n, d.left, dn, s.2, W1, d.k + 1⟩ (upS S i (b.take m ++ (S i).drop m)) ∧ Kp (dids D d) H s.1) ?_ (fun s hs r => ?_)
  · refine hgetK_has _ h3.obj ?_
    refine eqK_has ?_
    refine hgetK_has _ h3.obj ?_
    exact Has.intro ⟨rfl, (hset H3 D (dobj ⟨d.a, d.n, d.left, dn, IntKind.i64.wrap (d.wr + m), W1, d.k + 1⟩), IntKind.i64.wrap (d.wr + m)), ⟨h3.upd d.left dn _, k3.trans (Kp.set _ _ _) (by intro j hj; simp at hj; subst hj; left; simp [dids])⟩, ⟨rfl, rfl, trivial⟩, rfl⟩
  obtain ⟨H4, wr⟩ := s
  obtain ⟨h4, k4⟩ := hs
  simp only at h4 k4 ⊢
  refine seq_st (σ := Heap × Int) (fun _ => [(0, .ptr D 0)]) (fun s => s.1) (fun s => DkOK s.1 D ⟨d.a, d.n, s.2, dn, wr, W1, d.k + 1⟩ (upS S i (b.take m ++ (S i).drop m)) ∧ Kp (dids D d) H s.1 ∧ (dn = false → s.2 = -1)) ?_ (fun s hs r => ?_)
  · rcases hm with ⟨e1, e2, e3⟩ | ⟨e1, e2, e4, e3⟩
    · rw [e1] at h4
      refine hgetK_has _ h4.obj ?_
      refine boolK_dec_f (by show ¬ ((-1 : Int) > 0); decide) ?_
      exact Has.intro ⟨rfl, (_, _), ⟨h4, k4, fun _ => rfl⟩, ⟨rfl, trivial⟩, rfl⟩
    · rw [e1] at h4
      refine hgetK_has _ h4.obj ?_
      refine boolK_dec_t (by show (3 : Int) > 0; decide) ?_
      refine hgetK_has _ h4.obj ?_
      refine eqK_has ?_
      refine hgetK_has _ h4.obj ?_
      exact Has.intro ⟨rfl, (hset H4 D (dobj ⟨d.a, d.n, IntKind.i64.wrap (3 - m), dn, wr, W1, d.k + 1⟩), IntKind.i64.wrap (3 - m)), ⟨h4.upd _ dn wr, k4.trans (Kp.set _ _ _) (by intro j hj; simp at hj; subst hj; left; simp [dids]), fun e => by rw [e3] at e; cases e⟩, ⟨rfl, trivial⟩, rfl⟩
  obtain ⟨H5, left⟩ := s
  obtain ⟨h5, k5, l5⟩ := hs
  simp only at h5 k5 l5 ⊢
  refine hgetK_has _ h5.obj ?_
  cases dn with
  | false => exact Has.intro ⟨rfl, left, wr, W1, h5, k5, l5, t1⟩
  | true => exact Has.intro ⟨rfl, left, wr, W1, h5, k5, l5, t1⟩
end Go.Proofs.Ytflfdglnelbbiaa.Di
