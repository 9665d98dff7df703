/-
  The document's sum: a register of bits.
-/
import Derived.Test.YtgfedlikbaailaaCrcB
set_option linter.all false
set_option linter.unusedVariables false
set_option linter.unusedSimpArgs false
set_option linter.unusedSectionVars false
namespace Go.Proofs.Ytgfedlikbaailaa
open Go Go.VM

def bcells (f : Nat → Bool) : List PV := (List.range 32).map fun j => .bool (f j)
theorem bcells_len (f : Nat → Bool) : (bcells f).length = 32 := by simp [bcells]
theorem bcells_get (f : Nat → Bool) {i : Nat} (h : i < 32) : (bcells f)[i]? = some (.bool (f i)) := by simp [bcells, h]
theorem bcells_congr {f g : Nat → Bool} (h : ∀ j, j < 32 → f j = g j) : bcells f = bcells g := by
  unfold bcells
  apply List.map_congr_left
  intro j hj
  rw [h j (List.mem_range.1 hj)]
theorem bcells_set (f : Nat → Bool) (i : Nat) (b : Bool) : (bcells f).set i (.bool b) = bcells (fun j => if j = i then b else f j) := by
  apply List.ext_getElem?
  intro j
  rw [List.getElem?_set]
  rcases Nat.lt_or_ge j 32 with h | h
  · rw [bcells_get _ h]
    by_cases he : i = j
    · subst he; rw [if_pos rfl, if_pos (by rw [bcells_len]; exact h), bcells_get _ h, if_pos rfl]
    · rw [if_neg he, bcells_get _ h, if_neg (fun e => he e.symm)]
  · rw [List.getElem?_eq_none (by rw [bcells_len]; exact h)]
    split
    · rw [List.getElem?_eq_none (by rw [bcells_len]; exact h)]
      split
      · rename_i h1 h2; rw [bcells_len] at h2; omega
      · rfl
    · rw [List.getElem?_eq_none (by rw [bcells_len]; exact h)]

/-- The register after k bits of a byte. -/
def ser (r : BitVec 32) (b k : Nat) : BitVec 32 := bits k (r ^^^ BitVec.ofNat 32 b) ^^^ (BitVec.ofNat 32 b >>> k)
theorem bit_eq (x : BitVec 32) : bit x = (x >>> 1) ^^^ (if x.getLsbD 0 then 0xedb88320#32 else 0#32) := by unfold bit; rw [mask_eq]
theorem ser_low (r : BitVec 32) (b k : Nat) (hb : b < 256) (hk : k < 8) : (!((ser r b k).getLsbD 0 == (b / 2 ^ k % 2 == 1))) = (bits k (r ^^^ BitVec.ofNat 32 b)).getLsbD 0 := by
  unfold ser
  rw [BitVec.getLsbD_xor, BitVec.getLsbD_ushiftRight, Nat.add_zero]
  have : (BitVec.ofNat 32 b).getLsbD k = (b / 2 ^ k % 2 == 1) := by
    rw [BitVec.getLsbD_ofNat]
    have : decide (k < 32) = true := decide_eq_true (by omega)
    rw [this, Bool.true_and, Nat.testBit_eq_decide_div_mod_eq]
    rw [Bool.eq_iff_iff]; simp
  rw [this]
  cases (bits k (r ^^^ BitVec.ofNat 32 b)).getLsbD 0 <;> cases (b / 2 ^ k % 2 == 1) <;> rfl
theorem ser_step (r : BitVec 32) (b k : Nat) : ser r b (k + 1) = (ser r b k >>> 1) ^^^ (if (bits k (r ^^^ BitVec.ofNat 32 b)).getLsbD 0 then 0xedb88320#32 else 0#32) := by
  unfold ser
  show bit _ ^^^ _ = _
  rw [bit_eq, BitVec.ushiftRight_xor_distrib, ← BitVec.shiftRight_add]
  rw [BitVec.xor_assoc, BitVec.xor_assoc]
  congr 1
  exact BitVec.xor_comm _ _
theorem ser_end (r : BitVec 32) (b : UInt8) : ser r b.toNat 8 = byte r b := by
  unfold ser byte
  have : BitVec.ofNat 32 b.toNat >>> 8 = 0#32 := by
    apply BitVec.eq_of_toNat_eq
    rw [BitVec.toNat_ushiftRight, byte_toNat, Nat.shiftRight_eq_div_pow]
    have := b.toNat_lt
    have : b.toNat / 2 ^ 8 = 0 := Nat.div_eq_of_lt (by omega)
    rw [this]; rfl
  rw [this, BitVec.xor_zero]
theorem ser_start (r : BitVec 32) (b : Nat) : ser r b 0 = r := by
  unfold ser
  show (r ^^^ BitVec.ofNat 32 b) ^^^ (BitVec.ofNat 32 b >>> 0) = r
  rw [BitVec.ushiftRight_zero, BitVec.xor_assoc]; simp

def over (j : Nat) : Bool := (0xedb88320#32 : BitVec 32).getLsbD j
theorem over_eq : ∀ j, j < 32 → (3988292384 / 2 ^ j % 2 == 1) = over j := by decide

theorem tmod_nat (a : Nat) : (a : Int).tmod 2 = ((a % 2 : Nat) : Int) := rfl
theorem u32_half (a : Nat) (h : a < 4294967296) : IntKind.u32.wrap ((a : Int).tdiv 2) = ((a / 2 : Nat) : Int) := by
  show IntKind.u32.wrap ((a / 2 : Nat) : Int) = _
  exact wrap_u32 (by omega)
theorem u8_half (a : Nat) (h : a < 256) : IntKind.u8.wrap ((a : Int).tdiv 2) = ((a / 2 : Nat) : Int) := by
  show IntKind.u8.wrap ((a / 2 : Nat) : Int) = _
  rw [wrap_u8_mod, Nat.mod_eq_of_lt (by omega)]
theorem odd_eq (a : Nat) : (((a % 2 : Nat) : Int) == 1) = (a % 2 == 1) := by
  rw [Bool.eq_iff_iff]; simp; omega

/-- The number, bit by bit, the highest first. -/
theorem bits_num (x : BitVec 32) (m : Nat) (hm : m < 32) : x.toNat / 2 ^ (32 - (m + 1)) = 2 * (x.toNat / 2 ^ (32 - m)) + (if x.getLsbD (31 - m) then 1 else 0) := by
  have e : 32 - m = (32 - (m + 1)) + 1 := by omega
  rw [e, Nat.pow_succ, ← Nat.div_div_eq_div_mul]
  have : x.getLsbD (31 - m) = decide (x.toNat / 2 ^ (32 - (m + 1)) % 2 = 1) := by
    show x.toNat.testBit (31 - m) = _
    rw [Nat.testBit_eq_decide_div_mod_eq]
    rw [show 31 - m = 32 - (m + 1) by omega]
  rw [this]
  generalize x.toNat / 2 ^ (32 - (m + 1)) = y
  by_cases h : y % 2 = 1
  · rw [if_pos (by simpa using h)]; omega
  · rw [if_neg (by simpa using h)]; omega

theorem ref_init : [PV.bool false, .bool false, .bool false, .bool false, .bool false, .bool false, .bool false, .bool false, .bool false, .bool false, .bool false, .bool false, .bool false, .bool false, .bool false, .bool false, .bool false, .bool false, .bool false, .bool false, .bool false, .bool false, .bool false, .bool false, .bool false, .bool false, .bool false, .bool false, .bool false, .bool false, .bool false, .bool false] = bcells (fun _ => false) := rfl

theorem refOf_ok (s : ByteArray) (hs : s.size ≤ 9223372036854775807) : EP (EE env) 11 [.str s] = some (u32 (crc s.data.toList)) := by
  refine Has.eq (EP_has ?_)
  refine hgetK_has _ rfl ?_
  refine needK_has rfl ?_
  refine eqK_has_eq (bcells (fun j => decide (j < 0))) rfl ?_
  refine loopK_has ?_
  refine iterE_up 32 (fun i => [(0, .pv (.str s)), (3, .ptr 0 0), (4, .pv (.int .i64 i))]) (fun i => [.pcells (bcells (fun j => decide (j < i)))]) (fun i hi r => ?_) (fun r => ?_) ⟨rfl, rfl, rfl, trivial⟩ rfl
  · refine boolK_has_true (decide_eq_true (by omega)) ?_
    refine needK_has (by simp; omega) ?_
    refine hgetK_has _ rfl ?_
    refine needK_has (by
      show Nat.blt i (bcells _).length = true
      rw [bcells_len]; exact Nat.ble_eq_true_of_le hi) ?_
    refine eqK_has_eq (bcells (fun j => decide (j < i + 1))) (by
      show (bcells _).set i _ = _
      rw [bcells_set]
      exact bcells_congr fun j _ => by by_cases h : j = i <;> simp [h] <;> omega) ?_
    refine eqK_has_eq _ (i64_succ (by omega)) ?_
    exact Has.intro ⟨⟨rfl, rfl, rfl, trivial⟩, rfl⟩
  refine boolK_has_false (decide_eq_false (by omega)) ?_
  refine Has.intro ?_
  refine hgetK_has _ rfl ?_
  refine needK_has rfl ?_
  refine eqK_has_eq (bcells (fun j => decide (j < 0) && (3988292384 / 2 ^ j % 2 == 1))) rfl ?_
  refine loopK_has ?_
  refine iterE_up 32 (fun i => [(0, .pv (.str s)), (3, .ptr 0 0), (5, .ptr 1 0), (6, .pv (.int .u32 ((3988292384 / 2 ^ i : Nat) : Int))), (7, .pv (.int .i64 i))])
    (fun i => [.pcells (bcells (fun j => decide (j < 32))), .pcells (bcells (fun j => decide (j < i) && (3988292384 / 2 ^ j % 2 == 1)))]) (fun i hi r2 => ?_) (fun r2 => ?_) ⟨rfl, rfl, rfl, rfl, rfl, trivial⟩ rfl
  · refine boolK_has_true (decide_eq_true (by omega)) ?_
    refine needK_has rfl ?_
    refine eqK_has_eq _ (tmod_nat _) ?_
    refine boolK_has_eq (odd_eq _) ?_
    refine needK_has (by simp; omega) ?_
    refine hgetK_has _ rfl ?_
    refine needK_has (by
      show Nat.blt i (bcells _).length = true
      rw [bcells_len]; exact Nat.ble_eq_true_of_le hi) ?_
    refine eqK_has_eq (bcells (fun j => decide (j < i + 1) && (3988292384 / 2 ^ j % 2 == 1))) (by
      show (bcells _).set i _ = _
      rw [bcells_set]
      refine bcells_congr fun j _ => ?_
      by_cases h : j = i
      · subst h; rw [if_pos rfl]; simp
      · rw [if_neg h]; congr 1; rw [Bool.eq_iff_iff]; simp; omega) ?_
    have hp : 3988292384 / 2 ^ i < 4294967296 := Nat.lt_of_le_of_lt (Nat.div_le_self _ _) (by decide)
    refine needK_has rfl ?_
    refine eqK_has_eq _ (u32_half _ hp) ?_
    refine eqK_has_eq _ (i64_succ (by omega)) ?_
    refine Has.intro ⟨⟨rfl, rfl, rfl, ?_, rfl, trivial⟩, rfl⟩
    show AV.pv (.int .u32 ((3988292384 / 2 ^ i / 2 : Nat) : Int)) = _
    rw [Nat.div_div_eq_div_mul, ← Nat.pow_succ]
  refine boolK_has_false (decide_eq_false (by omega)) ?_
  refine Has.intro ?_
  refine loopK_has ?_
  refine iterE_up s.size (fun i => [(0, .pv (.str s)), (3, .ptr 0 0), (5, .ptr 1 0), (8, .pv (.int .i64 i))])
    (fun i => [.pcells (bcells (sum 0xffffffff#32 (s.data.toList.take i)).getLsbD), .pcells (bcells over)]) (fun i hi r3 => ?_) (fun r3 => ?_) ⟨rfl, rfl, rfl, rfl, trivial⟩ ?_
  · refine boolK_has_true (decide_eq_true (by omega)) ?_
    refine needK_has (by simp; omega) ?_
    have hsz : s.data.toList.length = s.size := Array.length_toList
    obtain ⟨b, hb⟩ : ∃ b, s.data.toList[i]? = some b := ⟨s.data.toList[i], List.getElem?_eq_getElem (by omega)⟩
    refine getK_has hb ?_
    generalize hR : sum 0xffffffff#32 (s.data.toList.take i) = R
    have hbl := b.toNat_lt
    refine loopK_has ?_
    refine iterE_up 8 (fun k => [(0, .pv (.str s)), (3, .ptr 0 0), (5, .ptr 1 0), (8, .pv (.int .i64 i)), (9, .pv (.int .u8 ((b.toNat / 2 ^ k : Nat) : Int))), (10, .pv (.int .i64 k))])
      (fun k => [.pcells (bcells (ser R b.toNat k).getLsbD), .pcells (bcells over)]) (fun k hk r4 => ?_) (fun r4 => ?_) ⟨rfl, rfl, rfl, rfl, ?_, rfl, trivial⟩ (by rw [ser_start])
    · refine boolK_has_true (decide_eq_true (by omega)) ?_
      refine needK_has rfl ?_
      refine hgetK_has _ rfl ?_
      refine getK_has (bcells_get _ (by decide : 0 < 32)) ?_
      refine needK_has rfl ?_
      refine eqK_has_eq _ (tmod_nat _) ?_
      refine boolK_has_eq (odd_eq _) ?_
      refine boolK_has_eq (ser_low R b.toNat k hbl hk) ?_
      generalize hlow : (bits k (R ^^^ BitVec.ofNat 32 b.toNat)).getLsbD 0 = low
      refine needK_has rfl ?_
      have hbk : b.toNat / 2 ^ k < 256 := Nat.lt_of_le_of_lt (Nat.div_le_self _ _) hbl
      refine eqK_has_eq _ (u8_half _ hbk) ?_
      refine loopK_has ?_
      generalize hA : (ser R b.toNat k) = A
      refine iterE_up 31 (fun n => [(0, .pv (.str s)), (3, .ptr 0 0), (5, .ptr 1 0), (8, .pv (.int .i64 i)), (9, .pv (.int .u8 ((b.toNat / 2 ^ k / 2 : Nat) : Int))), (10, .pv (.int .i64 k)), (11, .pv (.bool low)), (12, .pv (.int .i64 n))])
        (fun n => [.pcells (bcells (fun j => if j < n then A.getLsbD (j + 1) else A.getLsbD j)), .pcells (bcells over)]) (fun n hn r5 => ?_) (fun r5 => ?_) ⟨rfl, rfl, rfl, rfl, rfl, rfl, rfl, rfl, trivial⟩ ?_
      · refine boolK_has_true (decide_eq_true (by omega)) ?_
        refine eqK_has_eq _ (i64_succ (by omega)) ?_
        refine needK_has (by simp; omega) ?_
        refine hgetK_has _ rfl ?_
        refine getK_has (bcells_get _ (by show n + 1 < 32; omega)) ?_
        refine needK_has (by simp; omega) ?_
        refine hgetK_has _ rfl ?_
        refine needK_has (by
          show Nat.blt n (bcells _).length = true
          rw [bcells_len]; exact Nat.ble_eq_true_of_le (by omega)) ?_
        refine eqK_has_eq (bcells (fun j => if j < n + 1 then A.getLsbD (j + 1) else A.getLsbD j)) (by
          show (bcells _).set n (.bool (if n + 1 < n then A.getLsbD (n + 1 + 1) else A.getLsbD (n + 1))) = _
          rw [if_neg (by omega), bcells_set]
          refine bcells_congr fun j _ => ?_
          by_cases h : j = n
          · subst h; rw [if_pos rfl, if_pos (by omega)]
          · rw [if_neg h]
            by_cases h2 : j < n
            · rw [if_pos h2, if_pos (by omega)]
            · rw [if_neg h2, if_neg (by omega)]) ?_
        refine eqK_has_eq _ (i64_succ (by omega)) ?_
        exact Has.intro ⟨⟨rfl, rfl, rfl, rfl, rfl, rfl, rfl, rfl, trivial⟩, rfl⟩
      · refine boolK_has_false (decide_eq_false (by omega)) ?_
        refine Has.intro ?_
        refine needK_has rfl ?_
        refine hgetK_has _ rfl ?_
        refine needK_has (by
          show Nat.blt 31 (bcells _).length = true
          rw [bcells_len]; rfl) ?_
        refine eqK_has_eq (bcells (fun j => if j < 0 then ((A >>> 1).getLsbD j != (low && over j)) else (A >>> 1).getLsbD j)) (by
          show (bcells _).set 31 (.bool false) = _
          rw [bcells_set]
          refine bcells_congr fun j hj => ?_
          rw [if_neg (by omega : ¬ j < 0), BitVec.getLsbD_ushiftRight, Nat.add_comm 1 j]
          by_cases h : j = 31
          · subst h; rw [if_pos rfl, BitVec.getLsbD_of_ge _ _ (by decide)]
          · rw [if_neg h, if_pos (by omega)]) ?_
        refine loopK_has ?_
        refine iterE_up 32 (fun n => [(0, .pv (.str s)), (3, .ptr 0 0), (5, .ptr 1 0), (8, .pv (.int .i64 i)), (9, .pv (.int .u8 ((b.toNat / 2 ^ k / 2 : Nat) : Int))), (10, .pv (.int .i64 k)), (11, .pv (.bool low)), (13, .pv (.int .i64 n))])
          (fun n => [.pcells (bcells (fun j => if j < n then ((A >>> 1).getLsbD j != (low && over j)) else (A >>> 1).getLsbD j)), .pcells (bcells over)]) (fun n hn r6 => ?_) (fun r6 => ?_) ⟨rfl, rfl, rfl, rfl, rfl, rfl, rfl, rfl, trivial⟩ rfl
        · refine boolK_has_true (decide_eq_true (by omega)) ?_
          refine needK_has (by simp; omega) ?_
          have hg : (bcells (fun j => if j < n then ((A >>> 1).getLsbD j != (low && over j)) else (A >>> 1).getLsbD j))[n]? = some (.bool ((A >>> 1).getLsbD n)) := by
            rw [bcells_get _ hn, if_neg (Nat.lt_irrefl n)]
          refine hgetK_has _ rfl ?_
          refine getK_has hg ?_
          have fin : (bcells (fun j => if j < n then ((A >>> 1).getLsbD j != (low && over j)) else (A >>> 1).getLsbD j)).set n (.bool ((A >>> 1).getLsbD n != (low && over n))) =
              bcells (fun j => if j < n + 1 then ((A >>> 1).getLsbD j != (low && over j)) else (A >>> 1).getLsbD j) := by
            rw [bcells_set]
            refine bcells_congr fun j _ => ?_
            by_cases h : j = n
            · subst h; rw [if_pos rfl, if_pos (by omega)]
            · rw [if_neg h]
              by_cases h2 : j < n
              · rw [if_pos h2, if_pos (by omega)]
              · rw [if_neg h2, if_neg (by omega)]
          have hblt : Nat.blt n (bcells (fun j => if j < n then ((A >>> 1).getLsbD j != (low && over j)) else (A >>> 1).getLsbD j)).length = true := by
            rw [bcells_len]; exact Nat.ble_eq_true_of_le hn
          cases low with
          | true =>
            refine needK_has (by simp; omega) ?_
            refine hgetK_has _ rfl ?_
            refine getK_has (bcells_get _ hn) ?_
            refine boolK_has_eq (show _ = ((A >>> 1).getLsbD n != (true && over n)) from rfl) ?_
            refine needK_has (by simp; omega) ?_
            refine hgetK_has _ rfl ?_
            refine needK_has hblt ?_
            refine eqK_has_eq _ fin ?_
            refine eqK_has_eq _ (i64_succ (by omega)) ?_
            exact Has.intro ⟨⟨rfl, rfl, rfl, rfl, rfl, rfl, rfl, rfl, trivial⟩, rfl⟩
          | false =>
            refine boolK_has_eq (show _ = ((A >>> 1).getLsbD n != (false && over n)) from rfl) ?_
            refine needK_has (by simp; omega) ?_
            refine hgetK_has _ rfl ?_
            refine needK_has hblt ?_
            refine eqK_has_eq _ fin ?_
            refine eqK_has_eq _ (i64_succ (by omega)) ?_
            exact Has.intro ⟨⟨rfl, rfl, rfl, rfl, rfl, rfl, rfl, rfl, trivial⟩, rfl⟩
        · refine boolK_has_false (decide_eq_false (by omega)) ?_
          refine Has.intro ?_
          refine eqK_has_eq _ (i64_succ (by omega)) ?_
          refine Has.intro ⟨⟨rfl, rfl, rfl, rfl, ?_, rfl, trivial⟩, ?_⟩
          · show AV.pv (.int .u8 ((b.toNat / 2 ^ k / 2 : Nat) : Int)) = _
            rw [Nat.div_div_eq_div_mul, ← Nat.pow_succ]
          · show [HObj.pcells (bcells _), .pcells (bcells over)] = _
            congr 2
            refine bcells_congr fun j hj => ?_
            rw [if_pos hj, ser_step, hA, hlow, BitVec.getLsbD_xor]
            cases low <;> simp [over] <;> rfl
      · show [HObj.pcells (bcells _), .pcells (bcells over)] = _
        congr 2
    · refine boolK_has_false (decide_eq_false (by omega)) ?_
      refine Has.intro ?_
      refine eqK_has_eq _ (i64_succ (by omega)) ?_
      refine Has.intro ⟨⟨rfl, rfl, rfl, rfl, trivial⟩, ?_⟩
      show [HObj.pcells (bcells (ser R b.toNat 8).getLsbD), .pcells (bcells over)] = _
      rw [ser_end, ← hR]
      unfold sum
      rw [take_foldl hb]
    · show AV.pv (.int .u8 ((b.toNat : Nat) : Int)) = _
      rw [Nat.pow_zero, Nat.div_one]
  · refine boolK_has_false (decide_eq_false (by omega)) ?_
    refine Has.intro ?_
    have hsz : s.data.toList.length = s.size := Array.length_toList
    have ht : s.data.toList.take s.size = s.data.toList := List.take_of_length_le (by omega)
    refine loopK_has ?_
    generalize hX : crc s.data.toList = X
    refine iterE_up 32 (fun m => [(3, .ptr 0 0), (14, .pv (.int .u32 ((X.toNat / 2 ^ (32 - m) : Nat) : Int))), (15, .pv (.int .i64 (31 - (m : Int))))])
      (fun _ => [.pcells (bcells (sum 0xffffffff#32 s.data.toList).getLsbD), .pcells (bcells over)]) (fun m hm r7 => ?_) (fun r7 => ?_) ⟨rfl, ?_, rfl, trivial⟩ (by rw [ht])
    · refine boolK_has_true (decide_eq_true (by omega)) ?_
      have hlt : X.toNat / 2 ^ (32 - m) < 2147483648 := by
        have h1 := X.isLt
        have h2 : 2 ≤ 2 ^ (32 - m) := by
          rw [show 32 - m = (31 - m) + 1 by omega, Nat.pow_succ]
          have : 0 < 2 ^ (31 - m) := Nat.pow_pos (by decide)
          omega
        have : X.toNat / 2 ^ (32 - m) ≤ X.toNat / 2 := Nat.div_le_div_left h2 (by decide)
        omega
      refine eqK_has_eq ((2 * (X.toNat / 2 ^ (32 - m)) : Nat) : Int) (by
        rw [show (((X.toNat / 2 ^ (32 - m) : Nat) : Int) * 2) = ((2 * (X.toNat / 2 ^ (32 - m)) : Nat) : Int) by omega]
        exact wrap_u32 (by omega)) ?_
      refine needK_has (by simp; omega) ?_
      refine hgetK_has _ rfl ?_
      refine getK_has (show (bcells (sum 0xffffffff#32 s.data.toList).getLsbD)[addO 0 (31 - (m : Int)).toNat]? = some (.bool ((sum 0xffffffff#32 s.data.toList).getLsbD (31 - m))) by
        rw [show (31 - (m : Int)).toNat = 31 - m by omega]
        exact bcells_get (sum 0xffffffff#32 s.data.toList).getLsbD (show 31 - m < 32 by omega)) ?_
      have hbit : X.getLsbD (31 - m) = !(sum 0xffffffff#32 s.data.toList).getLsbD (31 - m) := by
        rw [← hX]; unfold crc; rw [BitVec.getLsbD_not]
        simp; omega
      have hn := bits_num X m hm
      cases hc : (sum 0xffffffff#32 s.data.toList).getLsbD (31 - m) with
      | true =>
        rw [hc] at hbit
        rw [hbit] at hn
        refine eqK_has_eq (31 - ((m + 1 : Nat) : Int)) (by rw [wrap_i64 (by omega) (by omega)]; omega) ?_
        refine Has.intro ⟨⟨rfl, ?_, rfl, trivial⟩, rfl⟩
        show AV.pv (.int .u32 ((2 * (X.toNat / 2 ^ (32 - m)) : Nat) : Int)) = _
        rw [hn]; rfl
      | false =>
        rw [hc] at hbit
        rw [hbit] at hn
        refine eqK_has_eq ((2 * (X.toNat / 2 ^ (32 - m)) + 1 : Nat) : Int) (by
          exact wrap_u32 (n := 2 * (X.toNat / 2 ^ (32 - m)) + 1) (by omega)) ?_
        refine eqK_has_eq (31 - ((m + 1 : Nat) : Int)) (by rw [wrap_i64 (by omega) (by omega)]; omega) ?_
        refine Has.intro ⟨⟨rfl, ?_, rfl, trivial⟩, rfl⟩
        show AV.pv (.int .u32 ((2 * (X.toNat / 2 ^ (32 - m)) + 1 : Nat) : Int)) = _
        rw [hn]; rfl
    · refine boolK_has_false (decide_eq_false (by omega)) ?_
      refine Has.intro ?_
      refine Has.intro (Has.intro ?_)
      show PV.int .u32 ((X.toNat / 2 ^ (32 - 32) : Nat) : Int) = _
      rw [Nat.sub_self, Nat.pow_zero, Nat.div_one]; rfl
    · show AV.pv (.int .u32 0) = _
      have : X.toNat / 2 ^ (32 - 0) = 0 := Nat.div_eq_of_lt X.isLt
      rw [this]; rfl
  · show [HObj.pcells (bcells _), .pcells (bcells _)] = _
    have e1 : bcells (fun j => decide (j < 32)) = bcells (sum 0xffffffff#32 (List.take 0 s.data.toList)).getLsbD := by
      refine bcells_congr fun j hj => ?_
      rw [List.take_zero]
      show decide (j < 32) = (0xffffffff#32 : BitVec 32).getLsbD j
      have : (0xffffffff#32 : BitVec 32) = BitVec.allOnes 32 := by decide
      rw [this, BitVec.getLsbD_allOnes]
    have e2 : bcells (fun j => decide (j < 32) && (3988292384 / 2 ^ j % 2 == 1)) = bcells over := by
      refine bcells_congr fun j hj => ?_
      rw [decide_eq_true hj, Bool.true_and, over_eq j hj]
    rw [e1, e2]
end Go.Proofs.Ytgfedlikbaailaa
