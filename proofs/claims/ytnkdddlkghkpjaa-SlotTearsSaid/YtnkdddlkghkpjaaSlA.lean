/-
  Numbers in bytes.
-/
import Derived.Test.YtnkdddlkghkpjaaPCrcI
import Derived.Test.YtnkdddlkghkpjaaV8
set_option linter.all false
set_option linter.unusedVariables false
set_option linter.unusedSimpArgs false
set_option linter.unusedSectionVars false
namespace Go.Proofs.Ytnkdddlkghkpjaa
open Go Go.VM

def num (bs : List UInt8) : Nat := bs.foldl (fun u c => u * 256 + c.toNat) 0
theorem num_step {bs : List UInt8} {i : Nat} {c : UInt8} (h : bs[i]? = some c) : num (bs.take (i + 1)) = num (bs.take i) * 256 + c.toNat := take_foldl h
theorem num_acc : ∀ (l : List UInt8) (u : Nat), l.foldl (fun u c => u * 256 + c.toNat) u = u * 256 ^ l.length + num l := by
  intro l
  induction l with
  | nil => intro u; simp [num]
  | cons c l ih =>
    intro u
    have h2 : num (c :: l) = (0 * 256 + c.toNat) * 256 ^ l.length + num l := ih _
    rw [List.foldl_cons, ih, h2, List.length_cons, Nat.pow_succ, Nat.add_mul, Nat.zero_mul, Nat.zero_add, Nat.add_assoc, Nat.mul_assoc, Nat.mul_comm 256]
theorem num_cons (c : UInt8) (l : List UInt8) : num (c :: l) = c.toNat * 256 ^ l.length + num l := by
  show l.foldl (fun u c => u * 256 + c.toNat) (0 * 256 + c.toNat) = _
  rw [num_acc, Nat.zero_mul, Nat.zero_add]
theorem num_lt : ∀ (l : List UInt8), num l < 256 ^ l.length := by
  intro l
  induction l with
  | nil => decide
  | cons c l ih =>
    rw [num_cons, List.length_cons, Nat.pow_succ]
    have h := c.toBitVec.isLt
    have h : c.toNat + 1 ≤ 256 := by have : c.toNat < 256 := h; omega
    have := Nat.mul_le_mul_right (256 ^ l.length) h
    rw [Nat.add_mul, Nat.one_mul, Nat.mul_comm 256] at this
    omega
def bigB (u : Nat) : Nat → List UInt8
  | 0 => []
  | k + 1 => UInt8.ofNat (u / 256 ^ k % 256) :: bigB u k
theorem bigB_len (u k : Nat) : (bigB u k).length = k := by
  induction k with
  | zero => rfl
  | succ k ih => rw [bigB, List.length_cons, ih]
theorem bigB_get (u : Nat) : ∀ (k i : Nat), i < k → (bigB u k)[i]? = some (UInt8.ofNat (u / 256 ^ (k - 1 - i) % 256)) := by
  intro k
  induction k with
  | zero => intro i h; omega
  | succ k ih =>
    intro i h
    cases i with
    | zero => rw [bigB]; simp
    | succ i =>
      rw [bigB, List.getElem?_cons_succ, ih i (by omega)]
      congr 4
      congr 1
      omega
theorem bigB_mod (a u n : Nat) : ∀ m, m ≤ n → bigB (a * 256 ^ n + u) m = bigB u m := by
  intro m
  induction m with
  | zero => intro _; rfl
  | succ m ih =>
    intro h
    rw [bigB, bigB, ih (by omega)]
    congr 2
    have e : 256 ^ n = 256 ^ m * (256 * 256 ^ (n - m - 1)) := by
      rw [← Nat.pow_succ', ← Nat.pow_add]; congr 1; omega
    rw [e, show a * (256 ^ m * (256 * 256 ^ (n - m - 1))) = 256 ^ m * (256 * (a * 256 ^ (n - m - 1))) by
      rw [Nat.mul_left_comm a, Nat.mul_left_comm a], Nat.mul_add_div (Nat.pow_pos (by decide)), Nat.mul_add_mod]
theorem bigB_num : ∀ (l : List UInt8), bigB (num l) l.length = l := by
  intro l
  induction l with
  | nil => rfl
  | cons c l ih =>
    rw [List.length_cons, bigB, num_cons, bigB_mod _ _ _ _ (Nat.le_refl _), ih]
    congr 1
    have h := num_lt l
    have hc : c.toNat < 256 := c.toBitVec.isLt
    rw [Nat.mul_comm, Nat.mul_add_div (Nat.pow_pos (by decide)), Nat.div_eq_of_lt h, Nat.add_zero, Nat.mod_eq_of_lt hc]
    simp
theorem num_bigB (u : Nat) : ∀ k, num (bigB u k) = u % 256 ^ k := by
  intro k
  induction k with
  | zero => simp [bigB, num, Nat.mod_one]
  | succ k ih =>
    rw [bigB, num_cons, bigB_len, ih, UInt8.toNat_ofNat', Nat.mod_mod_of_dvd _ (by decide : (2 ^ 8) ∣ 256)]
    have h1 : (2 : Nat) ^ 8 = 256 := by decide
    rw [h1, Nat.pow_succ, Nat.mod_mul, Nat.mul_comm, Nat.add_comm]
def u64 (n : Nat) : PV := .int .u64 n
theorem wrap_u64n {n : Nat} (h : n < 18446744073709551616) : IntKind.u64.wrap (n : Int) = n := by
  rw [wrap_u64_emod]; omega
theorem u64_shl8 {n : Nat} (h : n * 256 < 18446744073709551616) : IntKind.u64.wrap ((n : Int) * 2 ^ (min (8 : Int).toNat IntKind.u64.bits)) = ((n * 256 : Nat) : Int) := by
  have e : (2 : Int) ^ (min (8 : Int).toNat IntKind.u64.bits) = 256 := by decide
  rw [e, show (n : Int) * 256 = ((n * 256 : Nat) : Int) by simp, wrap_u64n h]
theorem sum_lt {n c : Nat} (h : n * 256 < 18446744073709551616) (hc : c < 256) : n * 256 + c < 18446744073709551616 := by
  have h1 : n < 72057594037927936 := Nat.lt_of_mul_lt_mul_right (a := 256) h
  have h2 : (n + 1) * 256 ≤ 72057594037927936 * 256 := Nat.mul_le_mul_right 256 h1
  exact Nat.lt_of_lt_of_le (Nat.add_lt_add_left hc _) (by rw [← Nat.succ_mul]; exact h2)
theorem u64_or8 {n c : Nat} (h : n * 256 < 18446744073709551616) (hc : c < 256) : IntKind.u64.wrap ((BitVec.ofInt IntKind.u64.bits ((n * 256 : Nat) : Int) ||| BitVec.ofInt IntKind.u64.bits (c : Int)).toNat : Int) = ((n * 256 + c : Nat) : Int) := by
  show IntKind.u64.wrap ((BitVec.ofInt 64 ((n * 256 : Nat) : Int) ||| BitVec.ofInt 64 (c : Int)).toNat : Int) = _
  have hb := sum_lt h hc
  have hc2 : c < 2 ^ 64 := Nat.lt_of_le_of_lt (Nat.le_add_left c (n * 256)) hb
  rw [BitVec.ofInt_natCast, BitVec.ofInt_natCast, BitVec.toNat_or, BitVec.toNat_ofNat, BitVec.toNat_ofNat, Nat.mod_eq_of_lt h, Nat.mod_eq_of_lt hc2]
  have hs := Nat.shiftLeft_add_eq_or_of_lt (show c < 2 ^ 8 from hc) n
  rw [Nat.shiftLeft_eq, show (2 : Nat) ^ 8 = 256 from rfl] at hs
  rw [← hs]
  exact wrap_u64n hb
theorem pow_le8 {i : Nat} (h : i < 8) : 256 ^ i * 256 ≤ 18446744073709551616 := by
  have : 256 ^ (i + 1) ≤ 256 ^ 8 := Nat.pow_le_pow_right (by decide) (by omega)
  rw [Nat.pow_succ] at this
  exact this
theorem number_ok (x : Ext) (bs : List UInt8) (h8 : bs.length ≤ 8) : EP (EE env) 17 [.sl x bs.length (bc bs)] = some (u64 (num bs)) := by
  refine Has.eq (EP_has ?_)
  refine loopK_has ?_
  refine iterE_up bs.length (fun i => [(3, .pv (u64 (num (bs.take i)))), (6, .pv (.sl x bs.length (bc bs))), (7, .pv (.int .i64 bs.length)), (8, .pv (.int .i64 i))]) (fun _ => []) (fun i hi r => ?_) (fun r => ?_) ⟨rfl, rfl, rfl, rfl, trivial⟩ rfl
  · have hc : (i : Int) < bs.length := by omega
    obtain ⟨c, hcg⟩ : ∃ c, bs[i]? = some c := ⟨_, List.getElem?_eq_getElem hi⟩
    have hlt := num_lt (bs.take i)
    rw [List.length_take, Nat.min_eq_left (Nat.le_of_lt hi)] at hlt
    have hp := pow_le8 (show i < 8 by omega)
    have h256 : num (bs.take i) * 256 < 18446744073709551616 := by
      have := Nat.mul_lt_mul_of_pos_right hlt (show 0 < 256 by decide)
      omega
    have hcl : c.toNat < 256 := c.toBitVec.isLt
    refine boolK_dec_t hc ?_
    refine needK_has (by (first | rfl | (simp; done) | (simp; omega))) ?_
    refine getK_has (v := .int .u8 c.toNat) (by rw [mulE_eq, Int.toNat_natCast, Nat.mul_one]; exact bc_get hcg) ?_
    refine needK_has rfl ?_
    refine eqK_has_eq _ (u64_shl8 h256) ?_
    refine eqK_has_eq _ (wrap_u64n (by omega)) ?_
    refine eqK_has_eq _ (u64_or8 h256 hcl) ?_
    refine eqK_has_eq _ (i64_succ (by omega)) ?_
    exact Has.intro ⟨⟨by rw [num_step hcg]; rfl, rfl, rfl, rfl, trivial⟩, rfl⟩
  · refine boolK_dec_f (by omega) ?_
    refine Has.intro (Has.intro (Has.intro ?_))
    rw [List.take_of_length_le (Nat.le_refl _)]; rfl
def sv (s : List UInt8) : PV := .str ⟨s.toArray⟩
theorem sv_size (s : List UInt8) : (⟨s.toArray⟩ : ByteArray).size = s.length := by simp [ByteArray.size]
theorem rnumber_ok (bs : List UInt8) (h8 : bs.length ≤ 8) : EP (EE env) 21 [sv bs] = some (u64 (num bs)) := by
  refine Has.eq (EP_has ?_)
  refine loopK_has ?_
  refine iterE_up bs.length (fun i => [(0, .pv (sv bs)), (3, .pv (u64 (num (bs.take i)))), (4, .pv (.int .i64 i))]) (fun _ => []) (fun i hi r => ?_) (fun r => ?_) ⟨rfl, rfl, rfl, trivial⟩ rfl
  · obtain ⟨c, hcg⟩ : ∃ c, bs[i]? = some c := ⟨_, List.getElem?_eq_getElem hi⟩
    have hlt := num_lt (bs.take i)
    rw [List.length_take, Nat.min_eq_left (Nat.le_of_lt hi)] at hlt
    have hp := pow_le8 (show i < 8 by omega)
    have h256 : num (bs.take i) * 256 < 18446744073709551616 := by
      have := Nat.mul_lt_mul_of_pos_right hlt (show 0 < 256 by decide)
      omega
    have hcl : c.toNat < 256 := c.toBitVec.isLt
    refine boolK_dec_t (by rw [sv_size]; omega) ?_
    refine eqK_has_eq (α := Int) ((num (bs.take i) * 256 : Nat) : Int) (by rw [show (num (bs.take i) : Int) * 256 = ((num (bs.take i) * 256 : Nat) : Int) by simp, wrap_u64n h256]) ?_
    refine needK_has (by rw [sv_size]; simp; omega) ?_
    refine getK_has (v := c) (by rw [Int.toNat_natCast]; exact hcg) ?_
    refine eqK_has_eq _ (wrap_u64n (by omega)) ?_
    refine eqK_has_eq (α := Int) ((num (bs.take i) * 256 + c.toNat : Nat) : Int) (by rw [← Int.natCast_add, wrap_u64n (sum_lt h256 hcl)]) ?_
    refine eqK_has_eq _ (i64_succ (by omega)) ?_
    exact Has.intro ⟨⟨rfl, by rw [num_step hcg]; rfl, rfl, trivial⟩, rfl⟩
  · refine boolK_dec_f (by rw [sv_size]; omega) ?_
    refine Has.intro (Has.intro (Has.intro ?_))
    rw [List.take_of_length_le (Nat.le_refl _)]; rfl
theorem size_ok (n : Int) : EP (EE env) 14 [.int .i64 n] = some (.int .i64 (if 0 ≤ n ∧ n ≤ 65536 then n + 20 else 0)) := by
  refine Has.eq (EP_has ?_)
  refine boolK_dec (fun h1 => ?_) (fun h1 => ?_)
  · rw [if_neg (by omega)]
    exact Has.intro (Has.intro rfl)
  refine boolK_dec (fun h2 => ?_) (fun h2 => ?_)
  · rw [if_neg (by omega)]
    exact Has.intro (Has.intro rfl)
  rw [if_pos (by omega)]
  refine eqK_has_eq (16 + n) (wrap_i64 (by omega) (by omega)) ?_
  refine eqK_has_eq (n + 20) (by rw [wrap_i64 (by omega) (by omega)]; omega) ?_
  exact Has.intro (Has.intro rfl)
theorem big_set {u k i : Nat} (h : i < k) : ((bigB u k).take i ++ List.replicate (k - i) 0).set i (UInt8.ofNat (u / 256 ^ (k - 1 - i) % 256)) = (bigB u k).take (i + 1) ++ List.replicate (k - (i + 1)) 0 := by
  have hl := bigB_len u k
  rw [List.take_add_one, bigB_get u k i h, List.set_append_right _ _ (by simp [hl]; omega)]
  have e : i - ((bigB u k).take i).length = 0 := by simp [hl]; omega
  rw [e, show k - i = (k - (i + 1)) + 1 by omega, List.replicate_succ, List.set_cons_zero, List.append_assoc]; rfl
theorem u64_shr (u m : Nat) (hm : 8 * m ≤ 64) : ((u : Int)).fdiv (2 ^ (min ((8 * m : Nat) : Int).toNat IntKind.u64.bits)) = ((u / 256 ^ m : Nat) : Int) := by
  rw [Int.fdiv_eq_ediv_of_nonneg _ (by exact Int.le_of_lt (Int.pow_pos (by decide)))]
  have : min ((8 * m : Nat) : Int).toNat IntKind.u64.bits = 8 * m := by rw [Int.toNat_natCast]; simp [IntKind.bits]; omega
  rw [this, Int.pow_mul, show (2 : Int) ^ 8 = 256 by decide]
  simp
theorem u8_conv (n : Nat) : IntKind.u8.wrap (n : Int) = ((UInt8.ofNat (n % 256)).toNat : Int) := by
  rw [wrap_u8_mod, UInt8.toNat_ofNat']
  congr 1
  show n % 256 = n % 256 % 256
  rw [Nat.mod_mod]
theorem at1 (k : Nat) : addO 0 (mulE ((k : Nat) : Int).toNat 1) = k := by
  rw [addO_eq, mulE_eq, Int.toNat_natCast]; omega
theorem big_len (u : Nat) {k i : Nat} (h : i ≤ k) : ((bigB u k).take i ++ List.replicate (k - i) 0).length = k := by
  simp [bigB_len]; omega
set_option maxHeartbeats 1000000 in
theorem big_ok (u k : Nat) (hk : 1 ≤ k ∧ k ≤ 8) : EP (EE env) 26 [u64 u, .int .i64 k] = some (.sl .nn k (bc (bigB u k))) := by
  refine Has.eq (EP_has ?_)
  refine needK_has (by simp; omega) ?_
  refine eqK_has_eq (bc ((bigB u k).take 0 ++ List.replicate (k - 0) 0)) (by rw [Int.toNat_natCast, bc_zeros]; rfl) ?_
  refine loopK_has ?_
  refine iterE_up k (fun i => [(0, .pv (u64 u)), (1, .pv (.int .i64 k)), (5, .hs 1 0 0 k k), (10, .pv (.int .i64 k)), (11, .pv (.int .i64 i))]) (fun i => [.pcells (bc ((bigB u k).take i ++ List.replicate (k - i) 0))]) (fun i hi r => ?_) (fun r => ?_) ⟨rfl, rfl, rfl, rfl, rfl, trivial⟩ rfl
  · refine boolK_dec_t (by omega) ?_
    refine eqK_has_eq ((k - 1 : Nat) : Int) (by rw [wrap_i64 (by omega) (by omega)]; omega) ?_
    refine eqK_has_eq ((k - 1 - i : Nat) : Int) (by rw [wrap_i64 (by omega) (by omega)]; omega) ?_
    refine eqK_has_eq ((8 * (k - 1 - i) : Nat) : Int) (by rw [wrap_i64 (by omega) (by omega)]; omega) ?_
    refine needK_has (by simp; omega) ?_
    refine eqK_has_eq _ (u64_shr u (k - 1 - i) (by omega)) ?_
    refine eqK_has_eq _ (u8_conv _) ?_
    refine needK_has (by simp; omega) ?_
    refine hgetK_has _ rfl ?_
    refine needK_has (by rw [at1, bc_length, big_len u (Nat.le_of_lt hi)]; exact Nat.ble_eq_true_of_le hi) ?_
    refine eqK_has_eq (bc ((bigB u k).take (i + 1) ++ List.replicate (k - (i + 1)) 0)) (by rw [at1, bc_set, big_set hi]) ?_
    refine eqK_has_eq _ (i64_succ (by omega)) ?_
    exact Has.intro ⟨⟨rfl, rfl, rfl, rfl, rfl, trivial⟩, rfl⟩
  · refine boolK_dec_f (by omega) ?_
    have hb : (bigB u k).take k ++ List.replicate (k - k) 0 = bigB u k := by
      rw [Nat.sub_self, List.replicate_zero, List.append_nil, List.take_of_length_le (by rw [bigB_len]; omega)]
    rw [hb]
    refine Has.intro (Has.intro (Has.of_eq (x := PV.sl .nn k (bc (bigB u k))) ?_ rfl))
    have hl : (bc (bigB u k)).length = k := by rw [bc_length, bigB_len]
    show (bif Nat.ble (0 + k * 1) (bc (bigB u k)).length then some (PV.sl .nn k (((bc (bigB u k)).drop 0).take (k * 1))) else none) = _
    rw [hl, Nat.zero_add, Nat.mul_one, Nat.ble_self_eq_true, List.drop_zero, List.take_of_length_le (by omega)]; rfl
theorem add_room (a b : List UInt8) (h : a.length + b.length ≤ 1000000) : decide ((⟨a.toArray⟩ : ByteArray).size + (⟨b.toArray⟩ : ByteArray).size ≤ 9223372036854775807) = true := by
  rw [sv_size, sv_size]; exact decide_eq_true (by omega)
theorem u64_div (u i : Nat) (hu : u < 18446744073709551616) : IntKind.u64.wrap (((u / 256 ^ i : Nat) : Int).tdiv 256) = ((u / 256 ^ (i + 1) : Nat) : Int) := by
  have e : ((u / 256 ^ i : Nat) : Int).tdiv 256 = ((u / 256 ^ (i + 1) : Nat) : Int) := by
    rw [Nat.pow_succ, ← Nat.div_div_eq_div_mul]; rfl
  rw [e, wrap_u64n (Nat.lt_of_le_of_lt (Nat.div_le_self _ _) hu)]
theorem u8_rem (n : Nat) : IntKind.u8.wrap ((n : Int).tmod 256) = ((UInt8.ofNat (n % 256)).toNat : Int) := by
  have e : (n : Int).tmod 256 = ((n % 256 : Nat) : Int) := rfl
  rw [e, u8_conv, Nat.mod_mod]
set_option maxHeartbeats 1000000 in
theorem rbig_ok (u k : Nat) (hk : k ≤ 8) (hu : u < 18446744073709551616) : EP (EE env) 22 [u64 u, .int .i64 k] = some (sv (bigB u k)) := by
  refine Has.eq (EP_has ?_)
  refine loopK_has ?_
  refine iterE_up k (fun i => [(0, .pv (u64 (u / 256 ^ i))), (1, .pv (.int .i64 k)), (5, .pv (sv (bigB u i))), (6, .pv (.int .i64 i))]) (fun i => []) (fun i hi r => ?_) (fun r => ?_) ⟨by rw [Nat.pow_zero, Nat.div_one]; rfl, rfl, rfl, rfl, trivial⟩ rfl
  · refine boolK_dec_t (by omega) ?_
    refine needK_has rfl ?_
    refine eqK_has ?_
    refine eqK_has_eq _ (u8_rem _) ?_
    refine needK_has rfl ?_
    refine bindK_has (strOf_bc' [UInt8.ofNat (u / 256 ^ i % 256)] rfl) ?_
    refine needK_has (add_room [UInt8.ofNat (u / 256 ^ i % 256)] (bigB u i) (by rw [bigB_len]; simp; omega)) ?_
    refine eqK_has_eq (⟨(bigB u (i + 1)).toArray⟩ : ByteArray) (mk_append [UInt8.ofNat (u / 256 ^ i % 256)] (bigB u i)) ?_
    refine needK_has rfl ?_
    refine eqK_has_eq _ (u64_div u i hu) ?_
    refine eqK_has_eq _ (i64_succ (by omega)) ?_
    exact Has.intro ⟨⟨rfl, rfl, rfl, rfl, trivial⟩, rfl⟩
  · refine boolK_dec_f (by omega) ?_
    exact Has.intro (Has.intro (Has.intro rfl))
end Go.Proofs.Ytnkdddlkghkpjaa
