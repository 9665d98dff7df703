/-
  Part 4 of the functions and the law.
  Sums that tell when they do not fit: what the program's functions compute.
  Numbers in fewer bits, with and without a sign; what must be answered ahead of everything else.
  Numbers as bytes.
  Numbers, texts and flags on a tape, and what the document has for them.
  Numbers that are read.
  A reader's functions.
  A reader: numbers, texts, flags, the end.
  What must be answered ahead of everything else; TapeWrites in the abstract machine.
  What is read is what was written.
  Pods that are kin.
  Right entries.
  Entries found by their names; owners in order.
-/
import Derived.Test.YtflfdglnelbbiaaP1
import Derived.Test.YtflfdglnelbbiaaP3
set_option linter.all false
set_option linter.unusedVariables false
set_option linter.unusedSimpArgs false
set_option linter.unusedSectionVars false
namespace Go.Proofs.Ytflfdglnelbbiaa.T
open Go Go.VM

def fit (n : Int) : Bool := decide (-9223372036854775808 ≤ n) && decide (n ≤ 9223372036854775807)
/-- A number that fits, and that it does. -/
def told (n : Int) : PV := .tup [.int .i64 (if fit n then n else 0), .bool (fit n)]
theorem fit_true {n : Int} (h : fit n = true) : -9223372036854775808 ≤ n ∧ n ≤ 9223372036854775807 := by
  unfold fit at h; rw [Bool.and_eq_true, decide_eq_true_eq, decide_eq_true_eq] at h; exact h
theorem fit_iff (n : Int) : fit n = true ↔ -9223372036854775808 ≤ n ∧ n ≤ 9223372036854775807 := by
  unfold fit; rw [Bool.and_eq_true, decide_eq_true_eq, decide_eq_true_eq]

theorem lt0 (z : BitVec 64) : decide (z.toInt < 0) = z.msb := (BitVec.msb_eq_toInt).symm
theorem bmod_add (x y : BitVec 64) : (x + y).toInt = if fit (x.toInt + y.toInt) then x.toInt + y.toInt else if x.toInt + y.toInt < 0 then x.toInt + y.toInt + 18446744073709551616 else x.toInt + y.toInt - 18446744073709551616 := by
  have hx := toInt_range x
  have hy := toInt_range y
  rw [BitVec.toInt_add, Int.bmod_def]
  have e : ((2 ^ 64 : Nat) : Int) = 18446744073709551616 := rfl
  rw [e]
  by_cases h : fit (x.toInt + y.toInt) = true
  · rw [if_pos h]; have := fit_true h; omega
  · rw [if_neg h]
    rw [fit_iff] at h
    omega
theorem bmod_sub (x y : BitVec 64) : (x - y).toInt = if fit (x.toInt - y.toInt) then x.toInt - y.toInt else if x.toInt - y.toInt < 0 then x.toInt - y.toInt + 18446744073709551616 else x.toInt - y.toInt - 18446744073709551616 := by
  have hx := toInt_range x
  have hy := toInt_range y
  rw [BitVec.toInt_sub, Int.bmod_def]
  have e : ((2 ^ 64 : Nat) : Int) = 18446744073709551616 := rfl
  rw [e]
  by_cases h : fit (x.toInt - y.toInt) = true
  · rw [if_pos h]; have := fit_true h; omega
  · rw [if_neg h]
    rw [fit_iff] at h
    omega
theorem over_add (x y : BitVec 64) : decide (((x ^^^ (x + y)) &&& (y ^^^ (x + y))).toInt < 0) = !fit (x.toInt + y.toInt) := by
  rw [lt0, BitVec.msb_and, BitVec.msb_xor, BitVec.msb_xor, ← lt0, ← lt0, ← lt0]
  have h := bmod_add x y
  have hx := toInt_range x
  have hy := toInt_range y
  rw [Bool.eq_iff_iff]
  cases hf : fit (x.toInt + y.toInt) with
  | true =>
    rw [hf] at h; simp only [if_true] at h
    generalize (x + y).toInt = s at h ⊢
    simp
    omega
  | false =>
    rw [hf] at h; simp only [Bool.false_eq_true, if_false] at h
    have hn : ¬ (-9223372036854775808 ≤ x.toInt + y.toInt ∧ x.toInt + y.toInt ≤ 9223372036854775807) := by rw [← fit_iff, hf]; simp
    generalize (x + y).toInt = s at h ⊢
    simp
    omega
theorem over_sub (x y : BitVec 64) : decide (((x ^^^ y) &&& (x ^^^ (x - y))).toInt < 0) = !fit (x.toInt - y.toInt) := by
  rw [lt0, BitVec.msb_and, BitVec.msb_xor, BitVec.msb_xor, ← lt0, ← lt0, ← lt0]
  have h := bmod_sub x y
  have hx := toInt_range x
  have hy := toInt_range y
  rw [Bool.eq_iff_iff]
  cases hf : fit (x.toInt - y.toInt) with
  | true =>
    rw [hf] at h; simp only [if_true] at h
    generalize (x - y).toInt = s at h ⊢
    simp
    omega
  | false =>
    rw [hf] at h; simp only [Bool.false_eq_true, if_false] at h
    have hn : ¬ (-9223372036854775808 ≤ x.toInt - y.toInt ∧ x.toInt - y.toInt ≤ 9223372036854775807) := by rw [← fit_iff, hf]; simp
    generalize (x - y).toInt = s at h ⊢
    simp
    omega

/-- The least multiple of a unit that isn't below. -/
def upTo (n u : Int) : Int := if n.tmod u = 0 then n else if n.tmod u < 0 then n - n.tmod u else n + (u - n.tmod u)
end Go.Proofs.Ytflfdglnelbbiaa.T

namespace Go.Proofs.Ytflfdglnelbbiaa.T
open Go Go.VM

theorem u8_range {n : Int} : IntKind.u8.wrap n = n % 256 := by
  unfold IntKind.wrap; simp only [IntKind.bits, IntKind.signed, Bool.false_and]; simp
theorem i16_range {n : Int} (h : -32768 ≤ n) (h' : n ≤ 32767) : IntKind.i16.wrap n = n := by
  unfold IntKind.wrap; simp only [IntKind.bits, IntKind.signed, Bool.true_and, Nat.reduceSub, Int.reducePow]
  split <;> rename_i h <;> simp at h <;> omega
theorem i16_in (n : Int) : -32768 ≤ IntKind.i16.wrap n ∧ IntKind.i16.wrap n ≤ 32767 := by
  unfold IntKind.wrap; simp only [IntKind.bits, IntKind.signed, Bool.true_and, Nat.reduceSub, Int.reducePow]
  split <;> rename_i h <;> simp at h <;> omega
theorem i32_range {n : Int} (h : -2147483648 ≤ n) (h' : n ≤ 2147483647) : IntKind.i32.wrap n = n := by
  unfold IntKind.wrap; simp only [IntKind.bits, IntKind.signed, Bool.true_and, Nat.reduceSub, Int.reducePow]
  split <;> rename_i h <;> simp at h <;> omega
theorem i32_in (n : Int) : -2147483648 ≤ IntKind.i32.wrap n ∧ IntKind.i32.wrap n ≤ 2147483647 := by
  unfold IntKind.wrap; simp only [IntKind.bits, IntKind.signed, Bool.true_and, Nat.reduceSub, Int.reducePow]
  split <;> rename_i h <;> simp at h <;> omega

/-- A number in a range, and whether it is. -/
def narrow (k : IntKind) (lo hi n : Int) : PV := if lo ≤ n ∧ n ≤ hi then .tup [.int k n, .bool true] else .tup [.int k 0, .bool false]
/-! ### signs -/
def zig (n : Int) : Int := if n < 0 then -1 - 2 * n else 2 * n
def zag (u : Int) : Int := if u % 2 = 1 then -1 - u / 2 else u / 2
theorem zag_zig {n : Int} : zag (zig n) = n := by unfold zag zig; split <;> split <;> omega
theorem zig_zag {u : Int} (h : 0 ≤ u) : zig (zag u) = u := by unfold zag zig; split <;> split <;> omega

theorem u64_xor0 (x : BitVec 64) : IntKind.u64.wrap ((BitVec.ofInt IntKind.u64.bits (x.toNat : Int) ^^^ BitVec.ofInt IntKind.u64.bits 0).toNat : Int) = (x.toNat : Int) := by
  show IntKind.u64.wrap ((BitVec.ofInt 64 (x.toNat : Int) ^^^ BitVec.ofInt 64 0).toNat : Int) = _
  rw [ofInt_toNat64]
  have : (BitVec.ofInt 64 0) = 0#64 := rfl
  rw [this, BitVec.xor_zero, u64_self]
theorem u64_xor1 (x : BitVec 64) : IntKind.u64.wrap ((BitVec.ofInt IntKind.u64.bits (x.toNat : Int) ^^^ BitVec.ofInt IntKind.u64.bits 18446744073709551615).toNat : Int) = 18446744073709551615 - (x.toNat : Int) := by
  show IntKind.u64.wrap ((BitVec.ofInt 64 (x.toNat : Int) ^^^ BitVec.ofInt 64 18446744073709551615).toNat : Int) = _
  rw [ofInt_toNat64]
  have : (BitVec.ofInt 64 18446744073709551615) = BitVec.allOnes 64 := by decide
  rw [this, BitVec.xor_allOnes, u64_self, BitVec.toNat_not]
  have := x.isLt
  omega
theorem i64_xor0 (x : BitVec 64) : IntKind.i64.wrap ((BitVec.ofInt IntKind.i64.bits x.toInt ^^^ BitVec.ofInt IntKind.i64.bits 0).toNat : Int) = x.toInt := by
  show IntKind.i64.wrap ((BitVec.ofInt 64 x.toInt ^^^ BitVec.ofInt 64 0).toNat : Int) = _
  rw [ofInt_toInt64]
  have : (BitVec.ofInt 64 0) = 0#64 := rfl
  rw [this, BitVec.xor_zero, i64_of_toNat]
theorem i64_xor1 (x : BitVec 64) : IntKind.i64.wrap ((BitVec.ofInt IntKind.i64.bits x.toInt ^^^ BitVec.ofInt IntKind.i64.bits (-1)).toNat : Int) = -1 - x.toInt := by
  show IntKind.i64.wrap ((BitVec.ofInt 64 x.toInt ^^^ BitVec.ofInt 64 (-1)).toNat : Int) = _
  rw [ofInt_toInt64]
  have : (BitVec.ofInt 64 (-1)) = BitVec.allOnes 64 := by decide
  rw [this, BitVec.xor_allOnes, i64_of_toNat, BitVec.toInt_not]
  have h := toInt_range x
  have e : ((2 ^ 64 : Nat) : Int) = 18446744073709551616 := rfl
  have h1 := x.isLt
  rw [BitVec.toInt_eq_toNat_cond, Int.bmod_def, e]
  split <;> split <;> omega

theorem zig_bits (x : BitVec 64) : EP (EE env) 60 [i64 x] = some (.int .u64 (zig x.toInt)) := by
  have hr := toInt_range x
  refine Has.eq (EP_has ?_)
  refine eqK_has_eq _ (u64_of_toInt x) ?_
  refine needK_has rfl ?_
  refine eqK_has_eq _ (u64_shl x 1 (by decide)) ?_
  refine needK_has rfl ?_
  have hx := x.isLt
  have ht := BitVec.toInt_eq_toNat_cond x
  have hs : ((x <<< 1).toNat : Int) = 2 * (x.toNat : Int) % 18446744073709551616 := by
    rw [BitVec.toNat_shiftLeft, Nat.shiftLeft_eq]; omega
  have hsh : x.toInt.fdiv (2 ^ (min (63 : Int).toNat IntKind.i64.bits)) = if x.toInt < 0 then -1 else 0 := by
    have e : (2 : Int) ^ (min (63 : Int).toNat IntKind.i64.bits) = 9223372036854775808 := rfl
    rw [e, Int.fdiv_eq_ediv_of_nonneg _ (by decide)]
    split <;> omega
  refine eqK_has_eq _ hsh ?_
  by_cases h : x.toInt < 0
  · rw [if_pos h]
    refine eqK_has_eq 18446744073709551615 rfl ?_
    refine eqK_has_eq _ (u64_xor1 _) ?_
    refine Has.intro (Has.intro ?_)
    show PV.int .u64 _ = _
    unfold zig
    rw [if_pos h, hs]
    congr 1
    split at ht <;> omega
  · rw [if_neg h]
    refine eqK_has_eq 0 rfl ?_
    refine eqK_has_eq _ (u64_xor0 _) ?_
    refine Has.intro (Has.intro ?_)
    show PV.int .u64 _ = _
    unfold zig
    rw [if_neg h, hs]
    congr 1
    split at ht <;> omega
theorem zig_ok {n : Int} (h : fit n = true) : EP (EE env) 60 [.int .i64 n] = some (.int .u64 (zig n)) := by
  obtain ⟨x, rfl⟩ := i64_bits (fit_true h).1 (fit_true h).2
  exact zig_bits x

theorem u64_and1 (x : BitVec 64) : IntKind.u64.wrap ((BitVec.ofInt IntKind.u64.bits (x.toNat : Int) &&& BitVec.ofInt IntKind.u64.bits 1).toNat : Int) = ((x.toNat % 2 : Nat) : Int) := by
  have h := u64_and x 1#64
  have e : ((1#64 : BitVec 64).toNat : Int) = 1 := rfl
  rw [e] at h
  rw [h, BitVec.toNat_and]
  show ((x.toNat &&& 1 : Nat) : Int) = _
  rw [Nat.and_one_is_mod]
theorem zag_bits (x : BitVec 64) : EP (EE env) 66 [u64 x] = some (.int .i64 (zag (x.toNat : Int))) := by
  have hx := x.isLt
  refine Has.eq (EP_has ?_)
  refine needK_has rfl ?_
  refine eqK_has_eq _ (u64_shr x 1 (by decide)) ?_
  have hs : ((x >>> 1).toNat : Int) = (x.toNat : Int) / 2 := by
    rw [BitVec.toNat_ushiftRight, Nat.shiftRight_eq_div_pow]; omega
  have hn : (x >>> 1).toInt = (x.toNat : Int) / 2 := by
    rw [BitVec.toInt_eq_toNat_cond, if_pos (by omega), hs]
  refine eqK_has_eq (x >>> 1).toInt (i64_of_toNat _) ?_
  refine eqK_has_eq _ (u64_and1 x) ?_
  refine eqK_has_eq ((x.toNat % 2 : Nat) : Int) (wrap_i64 (by omega) (by omega)) ?_
  by_cases h : x.toNat % 2 = 1
  · rw [h]
    refine eqK_has_eq (-1) rfl ?_
    refine eqK_has_eq _ (i64_xor1 _) ?_
    refine Has.intro (Has.intro ?_)
    show PV.int .i64 _ = _
    unfold zag
    rw [if_pos (by omega), hn]
  · have h0 : x.toNat % 2 = 0 := by omega
    rw [h0]
    refine eqK_has_eq 0 rfl ?_
    refine eqK_has_eq _ (i64_xor0 _) ?_
    refine Has.intro (Has.intro ?_)
    show PV.int .i64 _ = _
    unfold zag
    rw [if_neg (by omega), hn]
theorem zag_ok {u : Int} (h : 0 ≤ u) (h' : u ≤ 18446744073709551615) : EP (EE env) 66 [.int .u64 u] = some (.int .i64 (zag u)) := by
  obtain ⟨x, rfl⟩ := u64_bits h h'
  exact zag_bits x

def held (n lo hi : Int) : Int := if n < lo then lo else if n > hi then hi else n
end Go.Proofs.Ytflfdglnelbbiaa.T

namespace Go.Proofs.Ytflfdglnelbbiaa.T
open Go Go.VM

/-- A number's bytes. -/
def enc (u : Nat) : List UInt8 := if u < 128 then [UInt8.ofNat u] else UInt8.ofNat (u % 128 + 128) :: enc (u / 128)
theorem enc_lo {u : Nat} (h : u < 128) : enc u = [UInt8.ofNat u] := by rw [enc, if_pos h]
theorem enc_hi {u : Nat} (h : ¬ u < 128) : enc u = UInt8.ofNat (u % 128 + 128) :: enc (u / 128) := by rw [enc, if_neg h]
theorem enc_len : ∀ (m u : Nat), u < 128 ^ m → 1 ≤ m → (enc u).length ≤ m := by
  intro m
  induction m with
  | zero => intro u _ h; omega
  | succ m ih =>
    intro u hu _
    by_cases h : u < 128
    · rw [enc_lo h]; simp
    · rw [enc_hi h, List.length_cons]
      rw [Nat.pow_succ] at hu
      have : u / 128 < 128 ^ m := Nat.div_lt_of_lt_mul (by rw [Nat.mul_comm]; exact hu)
      have hm : 1 ≤ m := by
        rcases Nat.eq_zero_or_pos m with e | e
        · subst e; simp at hu; omega
        · exact e
      have := ih (u / 128) this hm
      omega
theorem enc_ten {u : Nat} (h : u < 18446744073709551616) : (enc u).length ≤ 10 := enc_len 10 u (by have : (128 : Nat) ^ 10 = 1180591620717411303424 := rfl; omega) (by decide)
theorem u8_low {u : Nat} (h : u < 128) : (UInt8.ofNat u).toNat = u := by rw [UInt8.toNat_ofNat']; omega
theorem u8_wrap (n : Nat) : IntKind.u8.wrap (n : Int) = ((n % 256 : Nat) : Int) := by
  unfold IntKind.wrap; simp only [IntKind.bits, IntKind.signed, Bool.false_and]
  simp
theorem u8_or128 : ∀ a : Nat, a < 256 → IntKind.u8.wrap ((BitVec.ofInt IntKind.u8.bits (a : Int) ||| BitVec.ofInt IntKind.u8.bits 128).toNat : Int) = (((UInt8.ofNat (a % 128 + 128)).toNat : Nat) : Int) := by decide +kernel
theorem shr7 (u : Nat) : ((u : Nat) : Int).fdiv (2 ^ (min (7 : Int).toNat IntKind.u64.bits)) = ((u / 128 : Nat) : Int) := by
  have e : (2 : Int) ^ (min (7 : Int).toNat IntKind.u64.bits) = 128 := rfl
  rw [e, Int.fdiv_eq_ediv_of_nonneg _ (by decide)]; simp
theorem bc_one (b : UInt8) : [PV.int .u8 (b.toNat : Int)] = bc [b] := rfl
theorem bc_app (a b : List UInt8) : bc a ++ bc b = bc (a ++ b) := by simp [bc]
theorem bc_len (a : List UInt8) : (bc a).length = a.length := by simp [bc]

/-! ### written on a tape -/
/-- What a call leaves that writes on a tape. -/
def Wrote (p : Nat) (bs : List UInt8) (H : Heap) (y : AV × Heap) : Prop := TP y.2 p bs ∧ Keep p H y.2
theorem TP.len {H : Heap} {p : Nat} {bs : List UInt8} (h : TP H p bs) : p < H.length := by
  obtain ⟨v, h1, _⟩ := h
  exact hget_lt h1 cellOf_ne.1
theorem number_nil (u : Int) (H : Heap) : EE env (.fn 39) [.pv .nilp, .pv (.int .u64 u)] H = some (undefV, H) := by
  refine Has.eq (EE_has ?_)
  exact Has.intro rfl
set_option maxHeartbeats 1000000 in
theorem number_ok (p : Nat) (u : Nat) (hu : u < 18446744073709551616) (bs : List UInt8) (hb : bs.length ≤ 1000000) (H : Heap) (ht : TP H p bs) :
    Has (EE env (.fn 39) [.ptr p 0, .pv (.int .u64 (u : Int))] H) (Wrote p (bs ++ enc u) H) := by
  have hu10 := enc_ten hu
  refine EE_has (fn_has rfl ?_)
  refine seq_on [(0, .ptr p 0), (1, .pv (.int .u64 (u : Int)))] H (Has.intro ⟨rfl, ⟨rfl, rfl, trivial⟩, rfl⟩) (fun r => ?_)
  refine seq_st (σ := Nat × List UInt8 × Heap) (fun s => [(0, .ptr p 0), (1, .pv (.int .u64 (s.1 : Int)))]) (fun s => s.2.2)
    (fun s => s.1 < 128 ∧ bs ++ enc u = s.2.1 ++ [UInt8.ofNat s.1] ∧ TP s.2.2 p s.2.1 ∧ Keep p H s.2.2) ?_ (fun ⟨w, cs, J⟩ ⟨hw, he, hT, hK⟩ r => ?_)
  · refine loopK_has ?_
    refine iterE_loop (σ := Nat × List UInt8 × Heap) (fun s => s.1) (fun s => [(0, .ptr p 0), (1, .pv (.int .u64 (s.1 : Int)))]) (fun s => s.2.2)
      (fun s => s.1 < 18446744073709551616 ∧ bs ++ enc u = s.2.1 ++ enc s.1 ∧ TP s.2.2 p s.2.1 ∧ Keep p H s.2.2 ∧ s.2.1.length ≤ bs.length + 10) (fun ⟨w, cs, J⟩ ⟨hw, he, hT, hK, hl⟩ r => ?_) (u, bs, H) ⟨hu, rfl, ht, Keep.refl p H, by simp⟩ ⟨rfl, rfl, trivial⟩ rfl
    dsimp only at hw he hT hK hl ⊢
    refine boolK_dec (fun hge => ?_) (fun hlt => ?_)
    · have hge' : ¬ w < 128 := by omega
      obtain ⟨v, hv1, hv2⟩ := hT
      have hv0 := hv2
      have hcl : cs.length < bs.length + 10 := by
        have := congrArg List.length he
        rw [List.length_append, List.length_append, enc_hi hge', List.length_cons] at this
        have : 1 ≤ (enc (w / 128)).length := by rw [enc]; split <;> simp
        omega
      rcases hv2 with ⟨hn, hc, rfl, _⟩ | ⟨hn, hc, t, rfl, ht⟩
      all_goals
        refine hgetK_has _ hv1 ?_
        first
          | refine getK_has rfl ?_
          | skip
        refine eqK_has_eq _ (u8_wrap w) ?_
        refine eqK_has_eq _ (u8_or128 _ (Nat.mod_lt _ (by decide))) ?_
        refine app_has (m := 1) (new := bc [UInt8.ofNat (w % 256 % 128 + 128)]) hv0 rfl (by show (cs.length + 1) * 1 ≤ 140737488355328; omega) (fun v' H' hv' hf _ => ?_)
        have f1 := Fr.obj hv0 hf hv1 cellOf_ne.1 cellOf_ne.2
        have hv0' := AppV_put hv' (cellOf v') f1 cellOf_ne.2
        rcases hv' with ⟨hn', _⟩ | ⟨hn', hc', t', rfl, ht'⟩
        · omega
        refine hgetK_has _ f1 ?_
        refine needK_has rfl ?_
        refine eqK_has_eq _ (shr7 w) ?_
        have e1 : w % 256 % 128 = w % 128 := by omega
        rw [e1] at hv0' ⊢
        rw [bc_app] at hv0' ⊢
        refine Has.intro ⟨(w / 128, cs ++ [UInt8.ofNat (w % 128 + 128)], hset H' p (cellOf (.tsl t' (cs.length + 1) (bc (cs ++ [UInt8.ofNat (w % 128 + 128)]))))), ⟨by dsimp only; omega, ?_, ⟨_, hget_hset_same _ (hget_lt f1 cellOf_ne.1), ?_⟩, ?_, ?_⟩, ?_, ⟨rfl, rfl, trivial⟩, rfl⟩
        · dsimp only; rw [he, enc_hi hge', List.append_assoc]; rfl
        · dsimp only; rw [List.length_append]; exact hv0'
        · exact (hK.trans (Keep.of_fr hv0 hf p)).set _
        · dsimp only; rw [List.length_append, List.length_singleton]; omega
        · dsimp only; omega
    · refine Has.intro ?_
      exact Has.intro ⟨rfl, (w, cs, J), ⟨by omega, by rw [he, enc_lo (by omega)], hT, hK⟩, ⟨rfl, rfl, trivial⟩, rfl⟩
  dsimp only at hw he hT hK ⊢
  rw [he]
  have hcl : cs.length ≤ bs.length + 10 := by
    have := congrArg List.length he
    rw [List.length_append, List.length_append] at this
    omega
  obtain ⟨v, hv1, hv2⟩ := hT
  have hv0 := hv2
  rcases hv2 with ⟨hn, hc, rfl, _⟩ | ⟨hn, hc, t, rfl, ht⟩
  all_goals
    refine hgetK_has _ hv1 ?_
    first
      | refine getK_has rfl ?_
      | skip
    refine eqK_has_eq (((UInt8.ofNat w).toNat : Nat) : Int) ((u8_wrap w).trans (by rw [u8_low hw]; omega)) ?_
    refine app_has (m := 1) (new := bc [UInt8.ofNat w]) hv0 rfl (by show (cs.length + 1) * 1 ≤ 140737488355328; omega) (fun v' H' hv' hf _ => ?_)
    have f1 := Fr.obj hv0 hf hv1 cellOf_ne.1 cellOf_ne.2
    have hv0' := AppV_put hv' (cellOf v') f1 cellOf_ne.2
    rcases hv' with ⟨hn', _⟩ | ⟨hn', hc', t', rfl, ht'⟩
    · omega
    refine hgetK_has _ f1 ?_
    rw [bc_app] at hv0' ⊢
    refine Has.intro ⟨⟨.tsl t' (cs.length + 1) (bc (cs ++ [UInt8.ofNat w])), (show hget (hset H' p (cellOf (.tsl t' (cs.length + 1) (bc (cs ++ [UInt8.ofNat w]))))) p = _ from hget_hset_same _ (hget_lt f1 cellOf_ne.1)), ?_⟩, (hK.trans (Keep.of_fr hv0 hf p)).set _⟩
    rw [List.length_append]; exact hv0'
end Go.Proofs.Ytflfdglnelbbiaa.T

namespace Go.Proofs.Ytflfdglnelbbiaa.T
open Go Go.VM

theorem enc_ne (u : Nat) : enc u ≠ [] := by rw [enc]; split <;> simp
def zn (n : Int) : Nat := (zig n).toNat
theorem fit_of {n : Int} (h0 : -9223372036854775808 ≤ n) (h1 : n ≤ 9223372036854775807) : fit n = true := (fit_iff n).2 ⟨h0, h1⟩
theorem zn_lt {n : Int} (h0 : -9223372036854775808 ≤ n) (h1 : n ≤ 9223372036854775807) : zn n < 18446744073709551616 ∧ ((zn n : Nat) : Int) = zig n := by
  unfold zn zig; split <;> omega
theorem signed_ok (p : Nat) (n : Int) (h0 : -9223372036854775808 ≤ n) (h1 : n ≤ 9223372036854775807) (bs : List UInt8) (hb : bs.length ≤ 1000000) (H : Heap) (ht : TP H p bs) :
    Has (EE env (.fn 41) [.ptr p 0, .pv (.int .i64 n)] H) (Wrote p (bs ++ enc (zn n)) H) := by
  obtain ⟨g1, g2⟩ := zn_lt h0 h1
  refine EE_has ?_
  refine callPK_has (zig_ok (fit_of h0 h1)) ?_
  rw [← g2]
  refine callSK_has' ((number_ok p (zn n) g1 bs hb H ht).mono fun y hy => ?_)
  exact forceK_def y.1 _ ▸ Has.intro hy
theorem flag_ok (p : Nat) (b : Bool) (bs : List UInt8) (hb : bs.length ≤ 1000000) (H : Heap) (ht : TP H p bs) :
    Has (EE env (.fn 42) [.ptr p 0, .pv (.bool b)] H) (Wrote p (bs ++ enc b.toNat) H) := by
  cases b with
  | true =>
    refine EE_has ?_
    refine callSK_has' ((number_ok p 1 (by decide) bs hb H ht).mono fun y hy => ?_)
    rw [forceK_def]
    exact Has.intro hy
  | false =>
    refine EE_has ?_
    refine callSK_has' ((number_ok p 0 (by decide) bs hb H ht).mono fun y hy => ?_)
    rw [forceK_def]
    exact Has.intro hy
theorem bytes_sv (l : List UInt8) : bytesCells ⟨l.toArray⟩ = bc l := by
  unfold bytesCells bc; simp
theorem text_nil (l : List UInt8) (H : Heap) (hl : l.length < 9223372036854775808) : EE env (.fn 40) [.pv .nilp, .pv (sv l)] H = some (undefV, H) := by
  refine Has.eq (EE_has ?_)
  refine eqK_has ?_
  refine callSK_has (number_nil _ H) ?_
  exact Has.intro rfl
theorem text_ok (p : Nat) (l : List UInt8) (hl : l.length ≤ 1000000) (bs : List UInt8) (hb : bs.length ≤ 1000000) (H : Heap) (ht : TP H p bs) :
    Has (EE env (.fn 40) [.ptr p 0, .pv (sv l)] H) (Wrote p (bs ++ enc l.length ++ l) H) := by
  refine EE_has (fn_has rfl ?_)
  have hsz : ((⟨l.toArray⟩ : ByteArray).size : Int) = (l.length : Int) := by rw [sv_size]
  refine seq_st (σ := Heap) (fun _ => [(0, .ptr p 0), (1, .pv (sv l))]) (fun H => H) (fun H1 => TP H1 p (bs ++ enc l.length) ∧ Keep p H H1) ?_ (fun J ⟨hT, hK⟩ r => ?_)
  · refine eqK_has_eq ((l.length : Nat) : Int) (by rw [hsz, wrap_u64_emod]; omega) ?_
    refine callSK_has' ((number_ok p l.length (by omega) bs hb H ht).mono fun y hy => ?_)
    rw [forceK_def]
    exact Has.intro ⟨rfl, y.2, hy, ⟨rfl, rfl, trivial⟩, rfl⟩
  rcases hT.out with ⟨_, h⟩ | ⟨_, t, hv1, ht1⟩
  · exact absurd h (by simp [enc_ne])
  have hle := enc_ten (u := l.length) (by omega)
  have hv0 : AppV J (.tsl t (bs ++ enc l.length).length (bc (bs ++ enc l.length))) .nil 1 (bs ++ enc l.length).length (bc (bs ++ enc l.length)) :=
    .inr ⟨by rw [List.length_append]; have := List.length_pos_iff.2 (enc_ne l.length); omega, by rw [bc_len, Nat.mul_one], t, rfl, ht1⟩
  refine hgetK_has _ hv1 ?_
  refine app_cells (x := .pv (sv l)) (m := l.length) (new := bc l) hv0 (by show some (ByteArray.size _) = _; rw [sv_size]) (fun G => by show G (bytesCells _) = _; rw [bytes_sv]) (by rw [bc_len, Nat.mul_one]) (by rw [List.length_append]; show _ * 1 ≤ 140737488355328; omega) (fun v' H' hv' hf _ => ?_)
  have f1 := Fr.obj hv0 hf hv1 ((by intro h; cases h)) ((fun _ _ h => by cases h))
  have hv0' := AppV_put hv' (cellOf v') f1 ((fun _ _ h => by cases h))
  rw [bc_app] at hv' hv0'
  rcases hv' with ⟨hn', _⟩ | ⟨hn', hc', t', rfl, ht'⟩
  · have := List.length_pos_iff.2 (enc_ne l.length)
    rw [List.length_append] at hn'; omega
  refine hgetK_has _ f1 ?_
  refine Has.intro ⟨⟨_, (show hget (hset H' p (cellOf (.tsl t' ((bs ++ enc l.length).length + l.length) (bc (bs ++ enc l.length ++ l))))) p = _ from hget_hset_same _ (hget_lt f1 ((by intro h; cases h)))), ?_⟩, (hK.trans (Keep.of_fr hv0 hf p)).set _⟩
  rw [show (bs ++ enc l.length ++ l).length = (bs ++ enc l.length).length + l.length from List.length_append]
  exact hv0'

/-! ### its bytes -/
theorem clone_ok (x : Ext) (l : List UInt8) (hx : (x = .nil ∧ l = []) ∨ x = .nn ∨ x = .nnx) (hl : l.length ≤ 1000000) : ∃ e, EP (EE env) 27 [.sl x l.length (bc l)] = some (.sl e l.length (bc l)) ∧ ((e = .nil ∧ l = []) ∨ e = .nn ∨ e = .nnx) := by
  cases l with
  | nil =>
    rcases hx with ⟨rfl, _⟩ | rfl | rfl
    · exact ⟨.nil, Has.eq (EP_has (Has.intro (Has.intro rfl))), .inl ⟨rfl, rfl⟩⟩
    · refine ⟨.nnx, Has.eq (EP_has ?_), .inr (.inr rfl)⟩
      refine app_none ?_
      exact Has.intro (Has.intro rfl)
    · refine ⟨.nnx, Has.eq (EP_has ?_), .inr (.inr rfl)⟩
      refine app_none ?_
      exact Has.intro (Has.intro rfl)
  | cons a l =>
    refine ⟨.nn, ?_, .inr (.inl rfl)⟩
    rcases hx with ⟨_, h⟩ | rfl | rfl
    · cases h
    all_goals
      refine Has.eq (EP_has ?_)
      refine app_plain rfl rfl (by rw [bc_len, Nat.mul_one]) (by simp) (by show (0 + (a :: l).length) * 1 ≤ 140737488355328; omega) ?_
      refine Has.intro (Has.intro ?_)
      show PV.sl .nn (0 + (a :: l).length) ([] ++ bc (a :: l)) = _
      rw [Nat.zero_add]; rfl
theorem bytes_nil (H : Heap) : EE env (.fn 44) [.pv .nilp] H = some (.pv (.sl .nil 0 []), H) := by
  refine Has.eq (EE_has ?_)
  exact Has.intro rfl
theorem bytes_ok (p : Nat) (bs : List UInt8) (hb : bs.length ≤ 1000000) (H : Heap) (ht : TP H p bs) : ∃ e, EE env (.fn 44) [.ptr p 0] H = some (.pv (.sl e bs.length (bc bs)), H) ∧ ((e = .nil ∧ bs = []) ∨ e = .nn ∨ e = .nnx) := by
  rcases ht.out with ⟨h1, rfl⟩ | ⟨hne, t, h1, ht⟩
  · obtain ⟨e, he, hx⟩ := clone_ok .nil [] (.inl ⟨rfl, rfl⟩) (by simp)
    refine ⟨e, ?_, hx⟩
    refine Has.eq (EE_has ?_)
    refine hgetK_has _ h1 ?_
    refine getK_has rfl ?_
    refine callPK_has he ?_
    exact Has.intro rfl
  · obtain ⟨e, he, hx⟩ := clone_ok .nn bs (.inr (.inl rfl)) hb
    refine ⟨e, ?_, hx⟩
    refine Has.eq (EE_has ?_)
    refine hgetK_has _ h1 ?_
    refine callPK_has he ?_
    exact Has.intro rfl

/-! ### the document's -/
theorem rem128 (u : Nat) : ((u : Nat) : Int).tmod 128 = ((u % 128 : Nat) : Int) := rfl
theorem quo128 {u : Nat} (hu : u < 18446744073709551616) : IntKind.u64.wrap (((u : Nat) : Int).tdiv 128) = ((u / 128 : Nat) : Int) := by
  have : ((u : Nat) : Int).tdiv 128 = ((u / 128 : Nat) : Int) := rfl
  rw [this, wrap_u64_emod]; omega
theorem u8_128 {u : Nat} : IntKind.u8.wrap (((u % 128 : Nat) : Int) + 128) = (((UInt8.ofNat (u % 128 + 128)).toNat : Nat) : Int) := by
  have : ((u % 128 : Nat) : Int) + 128 = ((u % 128 + 128 : Nat) : Int) := by omega
  rw [this, u8_wrap, UInt8.toNat_ofNat']
theorem str_one (b : UInt8) : strOfCells [.int .u8 ((b.toNat : Nat) : Int)] = some [b] := bc_str [b]
end Go.Proofs.Ytflfdglnelbbiaa.T

namespace Go.Proofs.Ytflfdglnelbbiaa.T
open Go Go.VM

/-- A number that comes: what it is, the error, and what is left (if there is none). -/
def numF : Nat → Nat → List UInt8 → Nat × Int × List UInt8
  | _, _, [] => (0, 10, [])
  | i, u, c :: l => if i = 9 ∧ c.toNat > 1 then (0, 11, []) else if c.toNat = 0 ∧ i > 0 then (0, 11, []) else if c.toNat < 128 then (u + c.toNat * 128 ^ i, 0, l) else numF (i + 1) (u + (c.toNat % 128) * 128 ^ i) l
theorem numF_enc (rest : List UInt8) : ∀ (w i u : Nat), (w > 0 ∨ i = 0) → w * 128 ^ i < 18446744073709551616 → numF i u (enc w ++ rest) = (u + w * 128 ^ i, 0, rest) := by
  intro w
  induction w using Nat.strongRecOn with
  | ind w ih =>
    intro i u h0 hlt
    have hp : 0 < 128 ^ i := Nat.pow_pos (by decide)
    by_cases h : w < 128
    · rw [enc_lo h]
      show numF i u (UInt8.ofNat w :: rest) = _
      unfold numF
      rw [u8_low h, if_neg, if_neg (by omega), if_pos h]
      rintro ⟨rfl, h1⟩
      have : (128 : Nat) ^ 9 = 9223372036854775808 := rfl
      rw [this] at hlt
      omega
    · rw [enc_hi h]
      show numF i u (UInt8.ofNat (w % 128 + 128) :: (enc (w / 128) ++ rest)) = _
      have hc : (UInt8.ofNat (w % 128 + 128)).toNat = w % 128 + 128 := by rw [UInt8.toNat_ofNat']; omega
      unfold numF
      rw [hc, if_neg, if_neg (by omega), if_neg (by omega)]
      · have hps : 128 ^ (i + 1) = 128 ^ i * 128 := Nat.pow_succ ..
        have hm : w / 128 * (128 ^ i * 128) ≤ w * 128 ^ i := by
          rw [Nat.mul_comm (128 ^ i) 128, ← Nat.mul_assoc]
          exact Nat.mul_le_mul_right _ (Nat.div_mul_le_self w 128)
        rw [ih (w / 128) (by omega) (i + 1) _ (.inl (by omega)) (by rw [hps]; omega), hps]
        congr 1
        have e : (w % 128 + 128) % 128 = w % 128 := by omega
        rw [e]
        have e2 : w * 128 ^ i = (w % 128) * 128 ^ i + w / 128 * (128 ^ i * 128) := by
          rw [Nat.mul_comm (128 ^ i) 128, ← Nat.mul_assoc, ← Nat.add_mul]
          congr 1; omega
        omega
      · rintro ⟨rfl, _⟩
        have : (128 : Nat) ^ 9 = 9223372036854775808 := rfl
        rw [this] at hlt
        omega
theorem numF_dec : ∀ (bs : List UInt8) (i u v : Nat) (rest : List UInt8), i ≤ 9 → numF i u bs = (v, 0, rest) → ∃ w, bs = enc w ++ rest ∧ v = u + w * 128 ^ i ∧ (w > 0 ∨ i = 0) ∧ w * 128 ^ i < 18446744073709551616 := by
  intro bs
  induction bs with
  | nil => intro i u v rest _ h; unfold numF at h; simp at h
  | cons c l ih =>
    intro i u v rest hi h
    have hc := c.toNat_lt
    unfold numF at h
    by_cases h1 : i = 9 ∧ c.toNat > 1
    · rw [if_pos h1] at h; simp at h
    rw [if_neg h1] at h
    by_cases h2 : c.toNat = 0 ∧ i > 0
    · rw [if_pos h2] at h; simp at h
    rw [if_neg h2] at h
    have hpi : i < 9 → 128 ^ i ≤ 72057594037927936 := fun h => by
      have : 128 ^ i ≤ 128 ^ 8 := Nat.pow_le_pow_right (by decide) (by omega)
      exact this
    have hp9 : (128 : Nat) ^ 9 = 9223372036854775808 := rfl
    by_cases h3 : c.toNat < 128
    · rw [if_pos h3] at h
      injection h with e1 e2; injection e2 with e2 e3
      subst e1; subst e3
      refine ⟨c.toNat, ?_, rfl, by omega, ?_⟩
      · rw [enc_lo h3]
        simp
      · by_cases h9 : i = 9
        · subst h9
          rw [hp9]
          have : c.toNat ≤ 1 := by omega
          omega
        · have := hpi (by omega)
          have h4 : c.toNat * 128 ^ i ≤ 127 * 72057594037927936 := Nat.mul_le_mul (by omega) this
          omega
    · rw [if_neg h3] at h
      have hi8 : i < 9 := by omega
      obtain ⟨w, e1, e2, e3, e4⟩ := ih (i + 1) _ v rest (by omega) h
      have hw : w > 0 := by omega
      have hps : 128 ^ (i + 1) = 128 ^ i * 128 := Nat.pow_succ ..
      have hwd : (c.toNat % 128 + w * 128) / 128 = w := by omega
      have hwm : (c.toNat % 128 + w * 128) % 128 = c.toNat % 128 := by omega
      have hmul : (c.toNat % 128 + w * 128) * 128 ^ i = (c.toNat % 128) * 128 ^ i + w * 128 ^ (i + 1) := by
        rw [hps, Nat.add_mul, Nat.mul_assoc, Nat.mul_comm 128]
      refine ⟨c.toNat % 128 + w * 128, ?_, by rw [e2, hmul]; omega, .inl (by omega), ?_⟩
      · rw [enc_hi (by omega), hwd, hwm, e1]
        show c :: (enc w ++ rest) = UInt8.ofNat (c.toNat % 128 + 128) :: (enc w ++ rest)
        rw [show c.toNat % 128 + 128 = c.toNat by omega]
        simp
      · rw [hmul]
        have h5 : (c.toNat % 128) * 128 ^ i < 128 ^ (i + 1) := by
          rw [hps, Nat.mul_comm (128 ^ i) 128]
          exact Nat.mul_lt_mul_of_pos_right (Nat.mod_lt _ (by decide)) (Nat.pow_pos (by decide))
        by_cases h8 : i = 8
        · have e9 : 128 ^ (i + 1) = 9223372036854775808 := by rw [h8]
          rw [e9] at e4 h5
          rw [e9]
          omega
        · have h6 : 128 ^ (i + 1) ≤ 72057594037927936 := by
            have : 128 ^ (i + 1) ≤ 128 ^ 8 := Nat.pow_le_pow_right (by decide) (by omega)
            exact this
          -- w < 2^64 / 128^(i+1), a multiple
          have hdiv : 128 ^ (i + 1) * (2 * 128 ^ (8 - i)) = 18446744073709551616 := by
            rw [Nat.mul_comm 2, ← Nat.mul_assoc, ← Nat.pow_add, show i + 1 + (8 - i) = 9 by omega]
          have hlt : w < 2 * 128 ^ (8 - i) := by
            rw [← hdiv, Nat.mul_comm (128 ^ (i + 1))] at e4
            exact Nat.lt_of_mul_lt_mul_right e4
          have : (w + 1) * 128 ^ (i + 1) ≤ 18446744073709551616 := by
            rw [← hdiv, Nat.mul_comm (128 ^ (i + 1))]
            exact Nat.mul_le_mul_right _ hlt
          rw [Nat.add_mul] at this
          omega
theorem numF_lt {bs rest : List UInt8} {v : Nat} (h : numF 0 0 bs = (v, 0, rest)) : v < 18446744073709551616 ∧ bs = enc v ++ rest := by
  obtain ⟨w, e1, e2, _, e4⟩ := numF_dec bs 0 0 v rest (by decide) h
  simp at e2 e4
  subst e2
  exact ⟨e4, e1⟩
end Go.Proofs.Ytflfdglnelbbiaa.T

namespace Go.Proofs.Ytflfdglnelbbiaa.T
open Go Go.VM

def rdO (x : Ext) (bs : List UInt8) (e : Int) : HObj := .pcells [.sl x bs.length (bc bs), .int .i64 e]
theorem u8_and127 : ∀ c : Nat, c < 256 → IntKind.u8.wrap ((BitVec.ofInt IntKind.u8.bits (c : Int) &&& ~~~ BitVec.ofInt IntKind.u8.bits 128).toNat : Int) = ((c % 128 : Nat) : Int) := by decide +kernel
theorem u64_orN {a b : Nat} (ha : a < 18446744073709551616) (hb : b < 18446744073709551616) : IntKind.u64.wrap ((BitVec.ofInt IntKind.u64.bits (a : Int) ||| BitVec.ofInt IntKind.u64.bits (b : Int)).toNat : Int) = ((a ||| b : Nat) : Int) := by
  have e : ∀ n : Nat, n < 18446744073709551616 → BitVec.ofInt 64 (n : Int) = BitVec.ofNat 64 n := fun n _ => by rw [BitVec.ofInt_natCast]
  show IntKind.u64.wrap ((BitVec.ofInt 64 (a : Int) ||| BitVec.ofInt 64 (b : Int)).toNat : Int) = _
  rw [e a ha, e b hb, BitVec.toNat_or, BitVec.toNat_ofNat, BitVec.toNat_ofNat, Nat.mod_eq_of_lt ha, Nat.mod_eq_of_lt hb, wrap_u64_emod]
  have : a ||| b < 2 ^ 64 := Nat.or_lt_two_pow ha hb
  omega
theorem pow128 (i : Nat) : 2 ^ (7 * i) = 128 ^ i := by rw [Nat.pow_mul]
theorem or_add {u x i : Nat} (h : u < 128 ^ i) : u ||| x * 128 ^ i = u + x * 128 ^ i := by
  have := Nat.shiftLeft_add_eq_or_of_lt (a := x) (b := u) (i := 7 * i) (by rw [pow128]; exact h)
  rw [Nat.shiftLeft_eq, pow128] at this
  rw [Nat.or_comm, ← this, Nat.add_comm]
set_option maxHeartbeats 1000000 in
theorem num_ok (p : Nat) (x : Ext) (bs : List UInt8) (hb : bs.length ≤ 1000000) (e : Int) (H : Heap) (ht : hget H p = rdO x bs e) :
    Has (EE env (.fn 65) [.ptr p 0] H) (fun y => y.1 = .pv (.tup [.int .u64 ((numF 0 0 bs).1 : Nat), .int .i64 (numF 0 0 bs).2.1]) ∧
      (((numF 0 0 bs).2.1 = 0 ∧ ∃ x', y.2 = hset H p (rdO x' (numF 0 0 bs).2.2 e)) ∨ ((numF 0 0 bs).2.1 ≠ 0 ∧ y.2 = H))) := by
  refine EE_has ?_
  refine hgetK_has _ ht ?_
  refine getK_has rfl ?_
  refine loopK_has ?_
  refine iterE_loop (σ := Nat × Nat) (fun s => bs.length - s.1) (fun s => [(0, .ptr p 0), (4, .pv (.int .u64 (s.2 : Int))), (10, .pv (.sl x bs.length (bc bs))), (11, .pv (.int .i64 bs.length)), (12, .pv (.int .i64 s.1))]) (fun _ => H)
    (fun s => s.1 ≤ bs.length ∧ s.1 ≤ 9 ∧ s.2 < 128 ^ s.1 ∧ numF 0 0 bs = numF s.1 s.2 (bs.drop s.1)) (fun ⟨i, u⟩ ⟨hi, hi9, hu, he⟩ r => ?_) (0, 0) ⟨Nat.zero_le _, by decide, by decide, by rw [List.drop_zero]⟩ ⟨rfl, rfl, rfl, rfl, rfl, trivial⟩ rfl
  dsimp only at hi hi9 hu he ⊢
  refine boolK_dec (fun hc => ?_) (fun hc => ?_)
  · have hlt : i < bs.length := by omega
    obtain ⟨c, hcg⟩ : ∃ c, bs[i]? = some c := ⟨_, List.getElem?_eq_getElem hlt⟩
    have hd : bs.drop i = c :: bs.drop (i + 1) := by
      rw [List.drop_eq_getElem_cons hlt]
      rw [List.getElem?_eq_getElem hlt] at hcg; injection hcg with hcg; rw [hcg]
    have hc256 := c.toNat_lt
    rw [hd] at he
    have hp := pow128 i
    have hpl : 128 ^ i ≤ 9223372036854775808 := by
      have : 128 ^ i ≤ 128 ^ 9 := Nat.pow_le_pow_right (by decide) hi9
      exact this
    have hpl8 : i < 9 → 128 ^ i ≤ 72057594037927936 := fun h => by
      have : 128 ^ i ≤ 128 ^ 8 := Nat.pow_le_pow_right (by decide) (by omega)
      exact this
    refine needK_has (by (first | rfl | (simp; done) | (simp; omega))) ?_
    refine getK_has (bc_get hcg) ?_
    refine eqK_has_eq _ (u8_and127 _ (by omega)) ?_
    refine eqK_has_eq ((c.toNat % 128 : Nat) : Int) ((wrap_u64_emod _).trans (by omega)) ?_
    refine eqK_has_eq ((7 * i : Nat) : Int) ((wrap_i64 (by omega) (by omega)).trans (by omega)) ?_
    refine needK_has (by simp; omega) ?_
    by_cases h1 : i = 9 ∧ c.toNat > 1
    · refine eqK_has ?_
      refine eqK_has ?_
      refine boolK_beq_t (by omega) ?_
      refine boolK_dec_t (by omega) ?_
      have hn : numF 0 0 bs = (0, 11, []) := by rw [he]; unfold numF; rw [if_pos h1]
      rw [hn]
      refine Has.intro (Has.intro ?_)
      exact ⟨rfl, .inr ⟨by decide, rfl⟩⟩
    · have hx : (c.toNat % 128) * 128 ^ i < 18446744073709551616 := by
        by_cases h9 : i = 9
        · subst h9
          have : (128 : Nat) ^ 9 = 9223372036854775808 := rfl
          rw [this]; omega
        · have := hpl8 (by omega)
          have h4 : (c.toNat % 128) * 128 ^ i ≤ 127 * 72057594037927936 := Nat.mul_le_mul (by omega) this
          omega
      have hmin : min ((7 * i : Nat) : Int).toNat IntKind.u64.bits = 7 * i := by show min (7 * i) 64 = 7 * i; omega
      refine eqK_has_eq (((c.toNat % 128) * 128 ^ i : Nat) : Int) (by
        rw [hmin, wrap_u64_emod, show (2 : Int) ^ (7 * i) = ((2 ^ (7 * i) : Nat) : Int) by simp, hp, ← Int.natCast_mul]
        omega) ?_
      refine eqK_has_eq ((u + (c.toNat % 128) * 128 ^ i : Nat) : Int) (by rw [u64_orN (by omega) hx, or_add hu]) ?_
      have next : ¬ (c.toNat = 0 ∧ i > 0) → ¬ c.toNat < 128 → numF 0 0 bs = numF (i + 1) (u + (c.toNat % 128) * 128 ^ i) (bs.drop (i + 1)) := fun h2 h3 => by
        rw [he]; conv => lhs; unfold numF
        rw [if_neg h1, if_neg h2, if_neg h3]
      have good : ¬ (c.toNat = 0 ∧ i > 0) → c.toNat < 128 → numF 0 0 bs = (u + c.toNat * 128 ^ i, 0, bs.drop (i + 1)) := fun h2 h3 => by
        rw [he]; conv => lhs; unfold numF
        rw [if_neg h1, if_neg h2, if_pos h3]
      have bad : c.toNat = 0 ∧ i > 0 → numF 0 0 bs = (0, 11, []) := fun h2 => by
        rw [he]; conv => lhs; unfold numF
        rw [if_neg h1, if_pos h2]
      have hps : 128 ^ (i + 1) = 128 ^ i * 128 := Nat.pow_succ ..
      have hnu : u + (c.toNat % 128) * 128 ^ i < 128 ^ (i + 1) := by
        rw [hps, Nat.mul_comm (128 ^ i) 128]
        have : (c.toNat % 128) * 128 ^ i ≤ 127 * 128 ^ i := Nat.mul_le_mul_right _ (by omega)
        omega
      refine boolK_beq (fun h9 => ?_) (fun h9 => ?_)
      · refine boolK_dec_f (by omega) ?_
        refine boolK_dec_t (by omega) ?_
        refine boolK_beq (fun h0 => ?_) (fun h0 => ?_)
        · refine boolK_dec (fun h2 => ?_) (fun h2 => ?_)
          · (first | (rw [bad (by omega)]; refine Has.intro (Has.intro ?_); exact ⟨rfl, .inr ⟨by decide, rfl⟩⟩) | (have hg := good (by omega) (by omega); rw [hg]; have hcm : c.toNat % 128 = c.toNat := (by omega); rw [hcm]; refine hgetK_has _ ht ?_; refine getK_has rfl ?_; refine eqK_has_eq _ (i64_succ (by omega)) ?_; refine needK_has (by simp; omega) ?_; refine eqK_has_eq (bc (bs.drop (i + 1))) (by rw [mulE_eq, mulE_eq, Nat.mul_one, Nat.mul_one]; show ((bc bs).drop (i + 1)).take (bs.length - (i + 1)) = _; rw [bc_drop]; exact List.take_of_length_le (by rw [bc_len, List.length_drop]; exact Nat.le_refl _)) ?_; refine hgetK_has _ ht ?_; refine needK_has rfl ?_; refine eqK_has ?_; refine Has.intro (Has.intro ?_); refine ⟨rfl, .inl ⟨rfl, x.part true false, ?_⟩⟩; show hset H p _ = hset H p (.pcells [.sl _ (bs.drop (i + 1)).length _, .int .i64 e]); rw [List.length_drop]; rfl) | (refine eqK_has_eq _ (i64_succ (by omega)) ?_; refine Has.intro ⟨(i + 1, u + (c.toNat % 128) * 128 ^ i), ⟨hlt, (by dsimp only; omega), hnu, next (by omega) (by omega)⟩, (by dsimp only; omega), ⟨rfl, rfl, rfl, rfl, rfl, trivial⟩, rfl⟩) | (exfalso; omega))
          · exfalso; omega
        · refine boolK_dec_t (by omega) ?_
          (first | (rw [bad (by omega)]; refine Has.intro (Has.intro ?_); exact ⟨rfl, .inr ⟨by decide, rfl⟩⟩) | (have hg := good (by omega) (by omega); rw [hg]; have hcm : c.toNat % 128 = c.toNat := (by omega); rw [hcm]; refine hgetK_has _ ht ?_; refine getK_has rfl ?_; refine eqK_has_eq _ (i64_succ (by omega)) ?_; refine needK_has (by simp; omega) ?_; refine eqK_has_eq (bc (bs.drop (i + 1))) (by rw [mulE_eq, mulE_eq, Nat.mul_one, Nat.mul_one]; show ((bc bs).drop (i + 1)).take (bs.length - (i + 1)) = _; rw [bc_drop]; exact List.take_of_length_le (by rw [bc_len, List.length_drop]; exact Nat.le_refl _)) ?_; refine hgetK_has _ ht ?_; refine needK_has rfl ?_; refine eqK_has ?_; refine Has.intro (Has.intro ?_); refine ⟨rfl, .inl ⟨rfl, x.part true false, ?_⟩⟩; show hset H p _ = hset H p (.pcells [.sl _ (bs.drop (i + 1)).length _, .int .i64 e]); rw [List.length_drop]; rfl) | (refine eqK_has_eq _ (i64_succ (by omega)) ?_; refine Has.intro ⟨(i + 1, u + (c.toNat % 128) * 128 ^ i), ⟨hlt, (by dsimp only; omega), hnu, next (by omega) (by omega)⟩, (by dsimp only; omega), ⟨rfl, rfl, rfl, rfl, rfl, trivial⟩, rfl⟩) | (exfalso; omega))
      · refine boolK_dec (fun h3 => ?_) (fun h3 => ?_)
        · refine boolK_beq (fun h0 => ?_) (fun h0 => ?_)
          · refine boolK_dec (fun h2 => ?_) (fun h2 => ?_)
            · (first | (rw [bad (by omega)]; refine Has.intro (Has.intro ?_); exact ⟨rfl, .inr ⟨by decide, rfl⟩⟩) | (have hg := good (by omega) (by omega); rw [hg]; have hcm : c.toNat % 128 = c.toNat := (by omega); rw [hcm]; refine hgetK_has _ ht ?_; refine getK_has rfl ?_; refine eqK_has_eq _ (i64_succ (by omega)) ?_; refine needK_has (by simp; omega) ?_; refine eqK_has_eq (bc (bs.drop (i + 1))) (by rw [mulE_eq, mulE_eq, Nat.mul_one, Nat.mul_one]; show ((bc bs).drop (i + 1)).take (bs.length - (i + 1)) = _; rw [bc_drop]; exact List.take_of_length_le (by rw [bc_len, List.length_drop]; exact Nat.le_refl _)) ?_; refine hgetK_has _ ht ?_; refine needK_has rfl ?_; refine eqK_has ?_; refine Has.intro (Has.intro ?_); refine ⟨rfl, .inl ⟨rfl, x.part true false, ?_⟩⟩; show hset H p _ = hset H p (.pcells [.sl _ (bs.drop (i + 1)).length _, .int .i64 e]); rw [List.length_drop]; rfl) | (refine eqK_has_eq _ (i64_succ (by omega)) ?_; refine Has.intro ⟨(i + 1, u + (c.toNat % 128) * 128 ^ i), ⟨hlt, (by dsimp only; omega), hnu, next (by omega) (by omega)⟩, (by dsimp only; omega), ⟨rfl, rfl, rfl, rfl, rfl, trivial⟩, rfl⟩) | (exfalso; omega))
            · refine boolK_dec_t (by omega) ?_
              (first | (rw [bad (by omega)]; refine Has.intro (Has.intro ?_); exact ⟨rfl, .inr ⟨by decide, rfl⟩⟩) | (have hg := good (by omega) (by omega); rw [hg]; have hcm : c.toNat % 128 = c.toNat := (by omega); rw [hcm]; refine hgetK_has _ ht ?_; refine getK_has rfl ?_; refine eqK_has_eq _ (i64_succ (by omega)) ?_; refine needK_has (by simp; omega) ?_; refine eqK_has_eq (bc (bs.drop (i + 1))) (by rw [mulE_eq, mulE_eq, Nat.mul_one, Nat.mul_one]; show ((bc bs).drop (i + 1)).take (bs.length - (i + 1)) = _; rw [bc_drop]; exact List.take_of_length_le (by rw [bc_len, List.length_drop]; exact Nat.le_refl _)) ?_; refine hgetK_has _ ht ?_; refine needK_has rfl ?_; refine eqK_has ?_; refine Has.intro (Has.intro ?_); refine ⟨rfl, .inl ⟨rfl, x.part true false, ?_⟩⟩; show hset H p _ = hset H p (.pcells [.sl _ (bs.drop (i + 1)).length _, .int .i64 e]); rw [List.length_drop]; rfl) | (refine eqK_has_eq _ (i64_succ (by omega)) ?_; refine Has.intro ⟨(i + 1, u + (c.toNat % 128) * 128 ^ i), ⟨hlt, (by dsimp only; omega), hnu, next (by omega) (by omega)⟩, (by dsimp only; omega), ⟨rfl, rfl, rfl, rfl, rfl, trivial⟩, rfl⟩) | (exfalso; omega))
          · refine boolK_dec_t (by omega) ?_
            (first | (rw [bad (by omega)]; refine Has.intro (Has.intro ?_); exact ⟨rfl, .inr ⟨by decide, rfl⟩⟩) | (have hg := good (by omega) (by omega); rw [hg]; have hcm : c.toNat % 128 = c.toNat := (by omega); rw [hcm]; refine hgetK_has _ ht ?_; refine getK_has rfl ?_; refine eqK_has_eq _ (i64_succ (by omega)) ?_; refine needK_has (by simp; omega) ?_; refine eqK_has_eq (bc (bs.drop (i + 1))) (by rw [mulE_eq, mulE_eq, Nat.mul_one, Nat.mul_one]; show ((bc bs).drop (i + 1)).take (bs.length - (i + 1)) = _; rw [bc_drop]; exact List.take_of_length_le (by rw [bc_len, List.length_drop]; exact Nat.le_refl _)) ?_; refine hgetK_has _ ht ?_; refine needK_has rfl ?_; refine eqK_has ?_; refine Has.intro (Has.intro ?_); refine ⟨rfl, .inl ⟨rfl, x.part true false, ?_⟩⟩; show hset H p _ = hset H p (.pcells [.sl _ (bs.drop (i + 1)).length _, .int .i64 e]); rw [List.length_drop]; rfl) | (refine eqK_has_eq _ (i64_succ (by omega)) ?_; refine Has.intro ⟨(i + 1, u + (c.toNat % 128) * 128 ^ i), ⟨hlt, (by dsimp only; omega), hnu, next (by omega) (by omega)⟩, (by dsimp only; omega), ⟨rfl, rfl, rfl, rfl, rfl, trivial⟩, rfl⟩) | (exfalso; omega))
        · refine boolK_dec_f (by omega) ?_
          (first | (rw [bad (by omega)]; refine Has.intro (Has.intro ?_); exact ⟨rfl, .inr ⟨by decide, rfl⟩⟩) | (have hg := good (by omega) (by omega); rw [hg]; have hcm : c.toNat % 128 = c.toNat := (by omega); rw [hcm]; refine hgetK_has _ ht ?_; refine getK_has rfl ?_; refine eqK_has_eq _ (i64_succ (by omega)) ?_; refine needK_has (by simp; omega) ?_; refine eqK_has_eq (bc (bs.drop (i + 1))) (by rw [mulE_eq, mulE_eq, Nat.mul_one, Nat.mul_one]; show ((bc bs).drop (i + 1)).take (bs.length - (i + 1)) = _; rw [bc_drop]; exact List.take_of_length_le (by rw [bc_len, List.length_drop]; exact Nat.le_refl _)) ?_; refine hgetK_has _ ht ?_; refine needK_has rfl ?_; refine eqK_has ?_; refine Has.intro (Has.intro ?_); refine ⟨rfl, .inl ⟨rfl, x.part true false, ?_⟩⟩; show hset H p _ = hset H p (.pcells [.sl _ (bs.drop (i + 1)).length _, .int .i64 e]); rw [List.length_drop]; rfl) | (refine eqK_has_eq _ (i64_succ (by omega)) ?_; refine Has.intro ⟨(i + 1, u + (c.toNat % 128) * 128 ^ i), ⟨hlt, (by dsimp only; omega), hnu, next (by omega) (by omega)⟩, (by dsimp only; omega), ⟨rfl, rfl, rfl, rfl, rfl, trivial⟩, rfl⟩) | (exfalso; omega))
  · have : i = bs.length := by omega
    subst this
    rw [List.drop_length] at he
    have hn : numF 0 0 bs = (0, 10, []) := by rw [he]; unfold numF; rfl
    rw [hn]
    refine Has.intro (Has.intro ?_)
    exact ⟨rfl, .inr ⟨by decide, rfl⟩⟩
end Go.Proofs.Ytflfdglnelbbiaa.T

namespace Go.Proofs.Ytflfdglnelbbiaa.T
open Go Go.VM

section
variable (p : Nat) (x : Ext) (bs : List UInt8) (hb : bs.length ≤ 1000000) (e : Int) (H : Heap) (ht : hget H p = rdO x bs e)
/-- What a call leaves of a reader. -/
def Left (p : Nat) (v : PV) (bs : List UInt8) (e : Int) (H : Heap) (y : AV × Heap) : Prop := y.1 = .pv v ∧ ∃ x, y.2 = hset H p (rdO x bs e)
theorem rdl (h : hget H p = rdO x bs e) : p < H.length := hget_lt h (by intro h; cases h)
include ht
theorem fail_no (err : Int) (h : e ≠ 0 ∨ err = 0) : EE env (.fn 54) [.ptr p 0, .pv (.int .i64 err)] H = some (.pv (.tup []), H) := by
  refine Has.eq (EE_has ?_)
  refine hgetK_has _ ht ?_
  refine getK_has rfl ?_
  refine boolK_beq (fun h1 => ?_) (fun h1 => ?_)
  · refine boolK_bne_f (by omega) ?_
    exact Has.intro rfl
  · exact Has.intro rfl
theorem fail_yes (err : Int) (h : e = 0) (h2 : err ≠ 0) : EE env (.fn 54) [.ptr p 0, .pv (.int .i64 err)] H = some (.pv (.tup []), hset H p (rdO .nil [] err)) := by
  refine Has.eq (EE_has ?_)
  refine hgetK_has _ ht ?_
  refine getK_has rfl ?_
  refine boolK_beq_t h ?_
  refine boolK_bne_t h2 ?_
  refine hgetK_has _ ht ?_
  refine needK_has rfl ?_
  refine eqK_has ?_
  refine hgetK_has _ (hget_hset_same _ (rdl p x bs e H ht)) ?_
  refine needK_has rfl ?_
  refine eqK_has ?_
  refine Has.intro ?_
  rw [hset_hset]; rfl
def rNum (bs : List UInt8) (e : Int) (most : Nat) : Nat × List UInt8 × Int :=
  if e ≠ 0 then (0, bs, e) else if (numF 0 0 bs).2.1 ≠ 0 then (0, [], (numF 0 0 bs).2.1) else if (numF 0 0 bs).1 > most then (0, [], 15) else ((numF 0 0 bs).1, (numF 0 0 bs).2.2, 0)
include hb
set_option maxHeartbeats 1000000 in
theorem rnum_ok (most : Nat) : Has (EE env (.fn 51) [.ptr p 0, .pv (.int .u64 (most : Int))] H) (Left p (.int .u64 ((rNum bs e most).1 : Nat)) (rNum bs e most).2.1 (rNum bs e most).2.2 H) := by
  have hpl := rdl p x bs e H ht
  refine EE_has ?_
  refine hgetK_has _ ht ?_
  refine getK_has rfl ?_
  by_cases h0 : e = 0
  · subst h0
    refine boolK_bne_f rfl ?_
    refine callSK_has' ((num_ok p x bs hb 0 H ht).mono fun y hy => ?_)
    obtain ⟨v, H'⟩ := y
    obtain ⟨e1, e2⟩ := hy
    dsimp only at e1 e2 ⊢
    subst e1
    have hr : rNum bs 0 most = if (numF 0 0 bs).2.1 ≠ 0 then (0, [], (numF 0 0 bs).2.1) else if (numF 0 0 bs).1 > most then (0, [], 15) else ((numF 0 0 bs).1, (numF 0 0 bs).2.2, 0) := by
      unfold rNum; rw [if_neg (by simp)]
    generalize (numF 0 0 bs).1 = v at *
    generalize (numF 0 0 bs).2.1 = er at *
    generalize (numF 0 0 bs).2.2 = rest at *
    rcases e2 with ⟨rfl, x', rfl⟩ | ⟨her, e2⟩
    · rw [if_neg (by simp)] at hr
      have ht' : hget (hset H p (rdO x' rest 0)) p = rdO x' rest 0 := hget_hset_same _ hpl
      refine boolK_beq_t rfl ?_
      refine boolK_dec (fun h1 => ?_) (fun h1 => ?_)
      · rw [hr, if_pos (by omega)]
        refine callSK_has (fail_yes p x' rest 0 _ ht' 15 rfl (by decide)) ?_
        refine boolK_bne_t (by decide) ?_
        refine Has.intro ⟨rfl, .nil, ?_⟩
        rw [hset_hset]
      · rw [hr, if_neg (by omega)]
        refine callSK_has (fail_no p x' rest 0 _ ht' 0 (.inr rfl)) ?_
        refine boolK_bne_f rfl ?_
        exact Has.intro ⟨rfl, x', rfl⟩
    · rw [if_pos her] at hr
      rw [hr, e2]
      refine boolK_beq_f her ?_
      refine callSK_has (fail_yes p x bs 0 H ht er rfl her) ?_
      refine boolK_bne_t her ?_
      exact Has.intro ⟨rfl, .nil, rfl⟩
  · refine boolK_bne_t h0 ?_
    have hr : rNum bs e most = (0, bs, e) := by unfold rNum; rw [if_pos h0]
    rw [hr]
    exact Has.intro ⟨rfl, x, (hset_self ht).symm⟩
omit hb ht in
theorem rNum_lt (most : Nat) : (rNum bs e most).1 < 18446744073709551616 := by
  unfold rNum
  split
  · exact (by decide : (0 : Nat) < 18446744073709551616)
  · split
    · exact (by decide : (0 : Nat) < 18446744073709551616)
    · rename_i h
      split
      · exact (by decide : (0 : Nat) < 18446744073709551616)
      · exact (numF_lt (bs := bs) (rest := (numF 0 0 bs).2.2) (v := (numF 0 0 bs).1) (by rw [← Classical.not_not.1 h])).1
omit hb ht in
theorem numF_short : ∀ (bs : List UInt8) (i u : Nat), (numF i u bs).2.2.length ≤ bs.length := by
  intro bs
  induction bs with
  | nil => intro i u; exact Nat.le_refl _
  | cons c l ih =>
    intro i u
    unfold numF
    split
    · exact Nat.zero_le _
    split
    · exact Nat.zero_le _
    split
    · exact Nat.le_succ _
    · exact Nat.le_succ_of_le (ih _ _)
omit hb ht in
theorem rNum_short (most : Nat) : (rNum bs e most).2.1.length ≤ bs.length := by
  unfold rNum
  split
  · exact Nat.le_refl _
  split
  · exact Nat.zero_le _
  split
  · exact Nat.zero_le _
  · exact numF_short bs 0 0
def maxU : Nat := 18446744073709551615
def rSig (bs : List UInt8) (e least most : Int) : Int × List UInt8 × Int :=
  if (rNum bs e maxU).2.2 ≠ 0 then (0, (rNum bs e maxU).2) else if zag (rNum bs e maxU).1 < least ∨ zag (rNum bs e maxU).1 > most then (0, [], 15) else (zag (rNum bs e maxU).1, (rNum bs e maxU).2)
set_option maxHeartbeats 1000000 in
theorem rsig_ok (least most : Int) : Has (EE env (.fn 52) [.ptr p 0, .pv (.int .i64 least), .pv (.int .i64 most)] H) (Left p (.int .i64 (rSig bs e least most).1) (rSig bs e least most).2.1 (rSig bs e least most).2.2 H) := by
  have hpl := rdl p x bs e H ht
  have hlt := rNum_lt bs e maxU
  refine EE_has ?_
  refine callSK_has' ((rnum_ok p x bs hb e H ht maxU).mono fun y hy => ?_)
  obtain ⟨v, H'⟩ := y
  obtain ⟨e1, x', e2⟩ := hy
  dsimp only at e1 e2 ⊢
  subst e1; subst e2
  unfold rSig
  generalize rNum bs e maxU = R at *
  obtain ⟨v, bs', e'⟩ := R
  dsimp only at hlt ⊢
  have ht' : hget (hset H p (rdO x' bs' e')) p = rdO x' bs' e' := hget_hset_same _ hpl
  refine callPK_has (zag_ok (by omega) (by omega)) ?_
  refine hgetK_has _ ht' ?_
  refine getK_has rfl ?_
  refine boolK_bne (fun h1 => ?_) (fun h1 => ?_)
  · rw [if_pos h1]
    exact Has.intro ⟨rfl, x', rfl⟩
  · rw [if_neg (fun h => h h1)]
    refine boolK_dec (fun h2 => ?_) (fun h2 => ?_)
    · rw [if_pos (.inl h2)]
      refine callSK_has (fail_yes p x' bs' e' _ ht' 15 h1 (by decide)) ?_
      refine Has.intro ⟨rfl, .nil, ?_⟩
      rw [hset_hset]
    · refine boolK_dec (fun h3 => ?_) (fun h3 => ?_)
      · rw [if_pos (.inr h3)]
        refine callSK_has (fail_yes p x' bs' e' _ ht' 15 h1 (by decide)) ?_
        refine Has.intro ⟨rfl, .nil, ?_⟩
        rw [hset_hset]
      · rw [if_neg (by omega)]
        exact Has.intro ⟨rfl, x', rfl⟩
def rTxt (bs : List UInt8) (e most : Int) : List UInt8 × List UInt8 × Int :=
  if (rNum bs e maxU).2.2 ≠ 0 then ([], (rNum bs e maxU).2) else if most < 0 ∨ ((rNum bs e maxU).1 : Int) > most then ([], [], 15) else if (rNum bs e maxU).1 > (rNum bs e maxU).2.1.length then ([], [], 10)
  else ((rNum bs e maxU).2.1.take (rNum bs e maxU).1, (rNum bs e maxU).2.1.drop (rNum bs e maxU).1, (rNum bs e maxU).2.2)
set_option maxHeartbeats 2000000 in
theorem rtxt_ok (most : Int) (hm : most ≤ 9223372036854775807) : Has (EE env (.fn 36) [.ptr p 0, .pv (.int .i64 most)] H) (Left p (sv (rTxt bs e most).1) (rTxt bs e most).2.1 (rTxt bs e most).2.2 H) := by
  have hpl := rdl p x bs e H ht
  have hlt := rNum_lt bs e maxU
  have hsh := rNum_short bs e maxU
  refine EE_has ?_
  refine callSK_has' ((rnum_ok p x bs hb e H ht maxU).mono fun y hy => ?_)
  obtain ⟨v, H'⟩ := y
  obtain ⟨e1, x', e2⟩ := hy
  dsimp only at e1 e2 ⊢
  subst e1; subst e2
  unfold rTxt
  generalize rNum bs e maxU = R at *
  obtain ⟨v, bs', e'⟩ := R
  dsimp only at hlt hsh ⊢
  have ht' : hget (hset H p (rdO x' bs' e')) p = rdO x' bs' e' := hget_hset_same _ hpl
  refine hgetK_has _ ht' ?_
  refine getK_has rfl ?_
  refine boolK_bne (fun h1 => ?_) (fun h1 => ?_)
  · rw [if_pos h1]
    exact Has.intro ⟨rfl, x', rfl⟩
  rw [if_neg (fun h => h h1)]
  have bad : (most < 0 ∨ (v : Int) > most) → Has (some ((AV.pv (sv [])), hset (hset H p (rdO x' bs' e')) p (rdO .nil [] 15))) (Left p (sv []) [] 15 H) := fun _ => Has.intro ⟨rfl, .nil, by rw [hset_hset]⟩
  refine boolK_dec (fun h2 => ?_) (fun h2 => ?_)
  · rw [if_pos (.inl h2)]
    refine callSK_has (fail_yes p x' bs' e' _ ht' 15 h1 (by decide)) ?_
    exact Has.intro ⟨rfl, .nil, by rw [hset_hset]⟩
  refine eqK_has_eq most ((wrap_u64_emod _).trans (by omega)) ?_
  refine boolK_dec (fun h3 => ?_) (fun h3 => ?_)
  · rw [if_pos (.inr h3)]
    refine callSK_has (fail_yes p x' bs' e' _ ht' 15 h1 (by decide)) ?_
    exact Has.intro ⟨rfl, .nil, by rw [hset_hset]⟩
  rw [if_neg (by omega)]
  refine hgetK_has _ ht' ?_
  refine getK_has rfl ?_
  refine eqK_has_eq ((bs'.length : Nat) : Int) ((wrap_u64_emod _).trans (by omega)) ?_
  refine boolK_dec (fun h4 => ?_) (fun h4 => ?_)
  · rw [if_pos (by omega)]
    refine callSK_has (fail_yes p x' bs' e' _ ht' 10 h1 (by decide)) ?_
    exact Has.intro ⟨rfl, .nil, by rw [hset_hset]⟩
  rw [if_neg (by omega)]
  have hv : v ≤ bs'.length := by omega
  have htl : (bs'.take v).length = v := by rw [List.length_take]; omega
  refine hgetK_has _ ht' ?_
  refine getK_has rfl ?_
  refine needK_has (by simp; omega) ?_
  refine eqK_has_eq (bc (bs'.take v)) (by
    rw [mulE_eq, mulE_eq, Nat.mul_one, Nat.mul_one]
    show ((bc bs').drop 0).take (v - 0) = _
    rw [List.drop_zero, bc_take]; rfl) ?_
  refine needK_has (by rw [bc_len, htl]; exact Nat.beq_refl _) ?_
  refine bindK_has (bc_str _) ?_
  refine hgetK_has _ ht' ?_
  refine getK_has rfl ?_
  refine needK_has (by simp; omega) ?_
  refine eqK_has_eq (bc (bs'.drop v)) (by
    rw [mulE_eq, mulE_eq, Nat.mul_one, Nat.mul_one]
    show ((bc bs').drop v).take (bs'.length - v) = _
    rw [bc_drop]; exact List.take_of_length_le (by rw [bc_len, List.length_drop]; exact Nat.le_refl _)) ?_
  refine hgetK_has _ ht' ?_
  refine needK_has rfl ?_
  refine eqK_has ?_
  refine Has.intro ⟨rfl, x'.part true false, ?_⟩
  rw [hset_hset]
  show hset H p _ = hset H p (.pcells [.sl _ (bs'.drop v).length _, .int .i64 e'])
  rw [List.length_drop]; rfl
def rFlg (bs : List UInt8) (e : Int) : Bool × List UInt8 × Int :=
  if e ≠ 0 then (false, bs, e) else match bs with
    | [] => (false, [], 10)
    | c :: l => if c.toNat > 1 then (false, [], 11) else (decide (c.toNat = 1), l, 0)
set_option maxHeartbeats 1000000 in
theorem rflg_ok : Has (EE env (.fn 67) [.ptr p 0] H) (Left p (.bool (rFlg bs e).1) (rFlg bs e).2.1 (rFlg bs e).2.2 H) := by
  have hpl := rdl p x bs e H ht
  refine EE_has ?_
  refine hgetK_has _ ht ?_
  refine getK_has rfl ?_
  refine boolK_bne (fun h1 => ?_) (fun h1 => ?_)
  · unfold rFlg; rw [if_pos h1]
    exact Has.intro ⟨rfl, x, (hset_self ht).symm⟩
  subst h1
  refine hgetK_has _ ht ?_
  refine getK_has rfl ?_
  unfold rFlg
  rw [if_neg (by simp)]
  cases bs with
  | nil =>
    refine boolK_beq_t rfl ?_
    refine callSK_has (fail_yes p x [] 0 _ ht 10 rfl (by decide)) ?_
    exact Has.intro ⟨rfl, .nil, rfl⟩
  | cons c l =>
    dsimp only
    refine boolK_beq_f (by simp; omega) ?_
    refine hgetK_has _ ht ?_
    refine getK_has rfl ?_
    refine needK_has (by (first | rfl | (simp; done) | (simp; omega))) ?_
    refine getK_has (v := .int .u8 c.toNat) rfl ?_
    refine boolK_dec (fun h2 => ?_) (fun h2 => ?_)
    · rw [if_pos (by omega)]
      refine callSK_has (fail_yes p x (c :: l) 0 _ ht 11 rfl (by decide)) ?_
      exact Has.intro ⟨rfl, .nil, rfl⟩
    · rw [if_neg (by omega)]
      refine hgetK_has _ ht ?_
      refine getK_has rfl ?_
      refine needK_has (by (first | rfl | (simp; done) | (simp; omega))) ?_
      refine getK_has (v := .int .u8 c.toNat) rfl ?_
      refine boolK_has_keep ?_
      refine hgetK_has _ ht ?_
      refine getK_has rfl ?_
      refine needK_has (by (first | rfl | (simp; done) | (simp; omega))) ?_
      refine eqK_has_eq (bc l) (by
        rw [mulE_eq, mulE_eq, Nat.mul_one, Nat.mul_one]
        show ((bc (c :: l)).drop 1).take ((c :: l).length - 1) = _
        exact List.take_of_length_le (by show (bc l).length ≤ _; rw [bc_len]; simp)) ?_
      refine hgetK_has _ ht ?_
      refine needK_has rfl ?_
      refine eqK_has ?_
      refine Has.intro ⟨?_, x.part true false, ?_⟩
      · show AV.pv (PV.bool ((c.toNat : Int) == 1)) = _
        congr 2
        rw [Bool.eq_iff_iff, beq_iff_eq, decide_eq_true_iff]; omega
      · show hset H p (HObj.pcells [.sl (x.part true false) ((c :: l).length - 1) (bc l), .int .i64 0]) = _
        rw [show ((c :: l).length - 1) = l.length by simp]; rfl
def rEnd (bs : List UInt8) (e : Int) : Int := if e = 0 ∧ bs ≠ [] then 13 else e
omit hb in
theorem err_ok : EE env (.fn 56) [.ptr p 0] H = some (.pv (.int .i64 e), H) := by
  refine Has.eq (EE_has ?_)
  refine hgetK_has _ ht ?_
  refine getK_has rfl ?_
  exact Has.intro rfl
omit hb in
theorem left_ok : EE env (.fn 55) [.ptr p 0] H = some (.pv (.int .i64 bs.length), H) := by
  refine Has.eq (EE_has ?_)
  refine hgetK_has _ ht ?_
  refine getK_has rfl ?_
  exact Has.intro rfl
omit hb in
theorem end_ok : Has (EE env (.fn 37) [.ptr p 0] H) (fun y => y.1 = .pv (.int .i64 (rEnd bs e)) ∧ ∃ o, y.2 = hset H p o) := by
  have hpl := rdl p x bs e H ht
  refine EE_has ?_
  refine callSK_has (left_ok p x bs e H ht) ?_
  refine boolK_dec (fun h1 => ?_) (fun h1 => ?_)
  · have hne : bs ≠ [] := fun h => by subst h; simp at h1
    by_cases h0 : e = 0
    · refine callSK_has (fail_yes p x bs e H ht 13 h0 (by decide)) ?_
      refine callSK_has (err_ok p .nil [] 13 _ (hget_hset_same _ hpl)) ?_
      refine Has.intro ⟨?_, _, rfl⟩
      show AV.pv (PV.int .i64 13) = _
      unfold rEnd; rw [if_pos ⟨h0, hne⟩]
    · refine callSK_has (fail_no p x bs e H ht 13 (.inl h0)) ?_
      refine callSK_has (err_ok p x bs e H ht) ?_
      refine Has.intro ⟨?_, _, (hset_self ht).symm⟩
      show AV.pv (PV.int .i64 e) = _
      unfold rEnd; rw [if_neg (fun h => h0 h.1)]
  · have he : bs = [] := List.eq_nil_of_length_eq_zero (by omega)
    refine callSK_has (err_ok p x bs e H ht) ?_
    refine Has.intro ⟨?_, _, (hset_self ht).symm⟩
    show AV.pv (PV.int .i64 e) = _
    unfold rEnd; rw [if_neg (fun h => h.2 he)]
end
/-- A new reader. -/
theorem read_ok (x : Ext) (bs : List UInt8) (hx : (x = .nil ∧ bs = []) ∨ x = .nn ∨ x = .nnx) (hb : bs.length ≤ 1000000) (H : Heap) : ∃ e, EE env (.fn 33) [.pv (.sl x bs.length (bc bs))] H = some (.ptr H.length 0, H ++ [rdO e bs 0]) := by
  obtain ⟨e, he, _⟩ := clone_ok x bs hx hb
  refine ⟨e, Has.eq (EE_has ?_)⟩
  refine callPK_has he ?_
  exact Has.intro rfl
end Go.Proofs.Ytflfdglnelbbiaa.T

namespace Go.Proofs.Ytflfdglnelbbiaa.T
open Go Go.VM

theorem TP.put {H : Heap} {p q : Nat} {bs : List UInt8} (h : TP H p bs) {o : HObj} (o' : HObj) (hq : hget H q = o) (ho : ∀ n es, o ≠ .tok n es) (hne : p ≠ q) : TP (hset H q o') p bs := by
  obtain ⟨v, h1, h2⟩ := h
  exact ⟨v, (hget_hset_ne _ _ hne).trans h1, AppV_put h2 o' hq ho⟩
theorem TP.grow {H : Heap} {p : Nat} {bs : List UInt8} (h : TP H p bs) (L : Heap) : TP (H ++ L) p bs := by
  obtain ⟨v, h1, h2⟩ := h
  exact ⟨v, (hget_app L (hget_lt h1 cellOf_ne.1)).trans h1, AppV_grow h2 L⟩
def B0 : List UInt8 := [172, 2, 1, 2, 97, 98, 1]
theorem b0_eq : ((([] ++ enc 300) ++ enc (zn (-1))) ++ enc ([97, 98] : List UInt8).length ++ [97, 98]) ++ enc true.toNat = B0 := by
  have e1 : enc 300 = [172, 2] := by rw [enc_hi (by decide), enc_lo (by decide)]; rfl
  have e2 : enc (zn (-1)) = [1] := by rw [show zn (-1) = 1 from by decide, enc_lo (by decide)]; rfl
  have e3 : enc ([97, 98] : List UInt8).length = [2] := by rw [enc_lo (by decide)]; rfl
  have e4 : enc true.toNat = [1] := by rw [enc_lo (by decide)]; rfl
  rw [e1, e2, e3, e4]; rfl
end Go.Proofs.Ytflfdglnelbbiaa.T

namespace Go.Proofs.Ytflfdglnelbbiaa.T
open Go Go.VM

theorem numF_of {u : Nat} (hu : u < 18446744073709551616) (rest : List UInt8) : numF 0 0 (enc u ++ rest) = (u, 0, rest) := by
  have := numF_enc rest u 0 0 (.inr rfl) (by simpa using hu)
  simpa using this
theorem rNum_enc {u : Nat} (hu : u < 18446744073709551616) (rest : List UInt8) (most : Nat) (hm : u ≤ most) : rNum (enc u ++ rest) 0 most = (u, rest, 0) := by
  unfold rNum
  rw [numF_of hu, if_neg (by simp), if_neg (by simp), if_neg (by dsimp only; omega)]
theorem maxU_eq : maxU = 18446744073709551615 := rfl
theorem rSig_enc {n : Int} (h0 : -9223372036854775808 ≤ n) (h1 : n ≤ 9223372036854775807) (rest : List UInt8) : rSig (enc (zn n) ++ rest) 0 n n = (n, rest, 0) := by
  obtain ⟨g1, g2⟩ := zn_lt h0 h1
  unfold rSig
  rw [rNum_enc g1 rest maxU (by rw [maxU_eq]; omega)]
  dsimp only
  rw [g2, zag_zig, if_neg (by simp), if_neg (by omega)]
theorem rTxt_enc {s : List UInt8} (hs : s.length < 18446744073709551616) (rest : List UInt8) : rTxt (enc s.length ++ s ++ rest) 0 s.length = (s, rest, 0) := by
  unfold rTxt
  rw [List.append_assoc, rNum_enc hs (s ++ rest) maxU (by rw [maxU_eq]; omega)]
  dsimp only
  rw [if_neg (by simp), if_neg (by omega), if_neg (by rw [List.length_append]; omega), List.take_left, List.drop_left]
theorem enc_bool (b : Bool) : enc b.toNat = [UInt8.ofNat b.toNat] := by rw [enc_lo (by cases b <;> decide)]
theorem rFlg_enc (b : Bool) (rest : List UInt8) : rFlg (enc b.toNat ++ rest) 0 = (b, rest, 0) := by
  rw [enc_bool]
  cases b <;> rfl
theorem rNum_back {bs : List UInt8} {e : Int} (h : (rNum bs e maxU).2.2 = 0) : e = 0 ∧ bs = enc (rNum bs e maxU).1 ++ (rNum bs e maxU).2.1 := by
  unfold rNum at h ⊢
  by_cases h0 : e = 0
  · subst h0
    rw [if_neg (by simp)] at h ⊢
    by_cases h1 : (numF 0 0 bs).2.1 = 0
    · rw [if_neg (by simp [h1])] at h ⊢
      obtain ⟨g1, g2⟩ := numF_lt (bs := bs) (v := (numF 0 0 bs).1) (rest := (numF 0 0 bs).2.2) (by rw [← h1])
      rw [if_neg (by rw [maxU_eq]; omega)]
      exact ⟨rfl, g2⟩
    · rw [if_pos h1] at h
      exact absurd h h1
  · rw [if_pos h0] at h
    exact absurd h h0
def minI : Int := -9223372036854775808
def maxI : Int := 9223372036854775807
theorem rSig_in (bs : List UInt8) (e : Int) : -9223372036854775808 ≤ (rSig bs e minI maxI).1 ∧ (rSig bs e minI maxI).1 ≤ 9223372036854775807 := by
  unfold rSig
  split
  · dsimp only; omega
  split
  · dsimp only; omega
  · rename_i h
    have : minI = -9223372036854775808 := rfl
    have : maxI = 9223372036854775807 := rfl
    dsimp only; omega
theorem rSig_back {bs : List UInt8} {e : Int} (h : (rSig bs e minI maxI).2.2 = 0) : e = 0 ∧ bs = enc (zn (rSig bs e minI maxI).1) ++ (rSig bs e minI maxI).2.1 := by
  unfold rSig at h ⊢
  by_cases h1 : (rNum bs e maxU).2.2 = 0
  · rw [if_neg (by simp [h1])] at h ⊢
    by_cases h2 : zag (rNum bs e maxU).1 < minI ∨ zag (rNum bs e maxU).1 > maxI
    · rw [if_pos h2] at h; simp at h
    · rw [if_neg h2]
      have hz : zn (zag (rNum bs e maxU).1) = (rNum bs e maxU).1 := by
        unfold zn; rw [zig_zag (by omega)]; simp
      dsimp only
      rw [hz]
      exact rNum_back h1
  · rw [if_pos h1] at h
    exact absurd h h1
theorem rTxt_short (bs : List UInt8) (e most : Int) : (rTxt bs e most).1.length ≤ bs.length ∧ (rTxt bs e most).2.1.length ≤ bs.length := by
  have := rNum_short bs e maxU
  unfold rTxt
  split
  · exact ⟨Nat.zero_le _, this⟩
  split
  · exact ⟨Nat.zero_le _, Nat.zero_le _⟩
  split
  · exact ⟨Nat.zero_le _, Nat.zero_le _⟩
  · dsimp only
    rw [List.length_take, List.length_drop]; omega
theorem rTxt_back {bs : List UInt8} {e most : Int} (h : (rTxt bs e most).2.2 = 0) : e = 0 ∧ bs = enc (rTxt bs e most).1.length ++ (rTxt bs e most).1 ++ (rTxt bs e most).2.1 := by
  unfold rTxt at h ⊢
  by_cases h1 : (rNum bs e maxU).2.2 = 0
  · rw [if_neg (by simp [h1])] at h ⊢
    by_cases h2 : most < 0 ∨ ((rNum bs e maxU).1 : Int) > most
    · rw [if_pos h2] at h; simp at h
    · rw [if_neg h2] at h ⊢
      by_cases h3 : (rNum bs e maxU).1 > (rNum bs e maxU).2.1.length
      · rw [if_pos h3] at h; simp at h
      · rw [if_neg h3]
        obtain ⟨g1, g2⟩ := rNum_back h1
        refine ⟨g1, ?_⟩
        dsimp only
        rw [List.length_take, List.append_assoc, List.take_append_drop, Nat.min_eq_left (by omega)]
        exact g2
  · rw [if_pos h1] at h
    exact absurd h h1
theorem rSig_short (bs : List UInt8) (e a b : Int) : (rSig bs e a b).2.1.length ≤ bs.length := by
  have := rNum_short bs e maxU
  unfold rSig
  split
  · exact this
  split
  · exact Nat.zero_le _
  · exact this
theorem rFlg_short (bs : List UInt8) (e : Int) : (rFlg bs e).2.1.length ≤ bs.length := by
  unfold rFlg
  split
  · exact Nat.le_refl _
  split
  · exact Nat.zero_le _
  split
  · exact Nat.zero_le _
  · exact Nat.le_succ _
theorem rFlg_back {bs : List UInt8} {e : Int} (h : (rFlg bs e).2.2 = 0) : e = 0 ∧ bs = enc (rFlg bs e).1.toNat ++ (rFlg bs e).2.1 := by
  unfold rFlg at h ⊢
  by_cases h0 : e = 0
  · rw [if_neg (by simp [h0])] at h ⊢
    refine ⟨h0, ?_⟩
    cases bs with
    | nil => simp at h
    | cons c l =>
      dsimp only at h ⊢
      by_cases h1 : c.toNat > 1
      · rw [if_pos h1] at h; simp at h
      · rw [if_neg h1]
        dsimp only
        rw [enc_bool]
        by_cases h2 : c.toNat = 1
        · have : c = 1 := UInt8.toNat.inj h2
          subst this; rfl
        · have : c = 0 := UInt8.toNat.inj (by show c.toNat = 0; omega)
          subst this; rfl
  · rw [if_pos h0] at h
    exact absurd h h0
end Go.Proofs.Ytflfdglnelbbiaa.T

namespace Go.Proofs.Ytflfdglnelbbiaa
open Go Go.VM

def kinC (c d : Ct) : Prop := c.name = d.name ∧ c.r0 = d.r0 ∧ c.r1 = d.r1 ∧ c.r2 = d.r2
instance (c d : Ct) : Decidable (kinC c d) := by unfold kinC; infer_instance
def rC (c d : Ct) : Prop := c.r0 = d.r0 ∧ c.r1 = d.r1 ∧ c.r2 = d.r2
instance (c d : Ct) : Decidable (rC c d) := by unfold rC; infer_instance
def r3 (c : Ct) : List PV := [.bool c.r0, .bool c.r1, .bool c.r2]
theorem r3_eq (c d : Ct) : aggEq [.b, .b, .b] (r3 c) (r3 d) = some (decide (rC c d)) := by
  show some _ = some _
  congr 1
  rw [Bool.eq_iff_iff, decide_eq_true_iff]
  simp [rC]
def kinL (a b : List Ct) : Prop := a.length = b.length ∧ ∀ (j : Nat) (c d : Ct), a[j]? = some c → b[j]? = some d → kinC c d
noncomputable instance (a b : List Ct) : Decidable (kinL a b) := Classical.propDecidable _
def kinP (a b : Pd) : Prop := a.name = b.name ∧ a.prio = b.prio ∧ a.pol = b.pol ∧ kinL a.l b.l
noncomputable instance (a b : Pd) : Decidable (kinP a b) := Classical.propDecidable _
theorem at_ij (i j es : Nat) : addO (mulE ((i : Nat) : Int).toNat es) j = i * es + j := by rw [addO_eq, mulE_eq]; rfl
/-- A call by itself, from one on any heap. -/
theorem EP_of {f : FuncId} {ps : List PV} {v : PV} {X : AV × Heap → Prop} (h : Has (EE env (.fn f) (ps.map .pv) []) (fun y => y.1 = .pv v ∧ X y)) : EP (EE env) f ps = some v := by
  obtain ⟨y, h1, h2, _⟩ := h
  unfold EP
  rw [h1]
  obtain ⟨a, b⟩ := y
  dsimp only at h2
  subst h2
  rfl
theorem pod_p (x : Ext) (p : Pd) (hs : small p) : EP (EE env) 75 [.agg (pdc p x)] = some (.bool (decide (podP p))) := EP_of (pod_ok _ p hs [] (.inl ⟨x, rfl⟩))
theorem class_p (x : Ext) (p : Pd) (hl : p.l.length ≤ maxLen) : EP (EE env) 77 [.agg (pdc p x)] = some (.int .i64 (classI p.l)) := EP_of (class_ok _ p hl [] (.inl ⟨x, rfl⟩))
theorem alike_ok (c d : Ct) (H : Heap) : EE env (.fn 87) [.pv (.agg (ct c)), .pv (.agg (ct d))] H = some (.pv (.bool (decide (kinC c d))), H ++ [.pcells (ct c)] ++ [.pcells (ct d)]) := by
  have k1 : hget (H ++ [.pcells (ct c)] ++ [.pcells (ct d)]) H.length = .pcells (ct c) := (hget_app _ (by simp)).trans (hget_append_same H _)
  refine Has.eq (EE_has ?_)
  refine hgetK_has _ k1 ?_
  refine getK_has rfl ?_
  refine hgetK_last ?_
  refine getK_has rfl ?_
  refine boolK_has_eq (c := decide (c.name = d.name)) (str_beq _ _) ?_
  by_cases h1 : c.name = d.name
  · rw [decide_eq_true h1]
    refine hgetK_has _ k1 ?_
    refine secK_has (v := r3 c) rfl (of_decide_eq_true rfl) ?_
    refine hgetK_last ?_
    refine secK_has (v := r3 d) rfl (of_decide_eq_true rfl) ?_
    refine bindK_has (r3_eq c d) ?_
    refine boolK_dec (fun h2 => ?_) (fun h2 => ?_)
    · rw [show decide (kinC c d) = true from decide_eq_true ⟨h1, h2⟩]
      exact Has.intro rfl
    · rw [show decide (kinC c d) = false from decide_eq_false fun h => h2 h.2]
      exact Has.intro rfl
  · rw [decide_eq_false h1, show decide (kinC c d) = false from decide_eq_false fun h => h1 h.1]
    exact Has.intro rfl
theorem alike_p (c d : Ct) : EP (EE env) 87 [.agg (ct c), .agg (ct d)] = some (.bool (decide (kinC c d))) := EP_of (X := fun _ => True) ⟨_, alike_ok c d [], rfl, trivial⟩
theorem flat_part {α : Type} {f : α → List PV} {es : Nat} (hf : ∀ a, (f a).length = es) {l : List α} {i : Nat} {a : α} (h : l[i]? = some a) {j n : Nat} (hjn : j + n ≤ es) :
    ((flat f l).drop (i * es + j)).take n = ((f a).drop j).take n ∧ i * es + j + n ≤ (flat f l).length := by
  obtain ⟨h1, h2⟩ := flat_get hf h
  refine ⟨?_, by omega⟩
  rw [← h1, List.drop_take, List.take_take, List.drop_drop]
  congr 1; omega
set_option maxHeartbeats 1000000 in
theorem equalF_ok (x y : Ext) (a b : List Ct) (hl : a.length ≤ maxLen) : EP (EE env) 88 [.sl x a.length (flat ct a), .sl y b.length (flat ct b), .fn 87 [] []] = some (.bool (decide (kinL a b))) := by
  rw [maxLen_eq] at hl
  refine Has.eq (EP_has ?_)
  refine boolK_bne (fun h => ?_) (fun h => ?_)
  · exact Has.intro (Has.intro (no (fun e => h (by rw [e.1]))))
  have hab : a.length = b.length := by omega
  refine loopK_has ?_
  refine iterE_loopJ (σ := Nat) (fun i => a.length - i) (fun i => [(0, .pv (.sl x a.length (flat ct a))), (1, .pv (.sl y b.length (flat ct b))), (2, .pv (.fn 87 [] [])), (15, .pv (.sl x a.length (flat ct a))), (16, .pv (.int .i64 a.length)), (17, .pv (.int .i64 i))]) (fun _ => [])
    (fun i => i ≤ a.length ∧ ∀ (j : Nat) (c d : Ct), j < i → a[j]? = some c → b[j]? = some d → kinC c d) (fun i ⟨hi, hA⟩ r J => ?_) 0 ⟨Nat.zero_le _, fun j c d h => by omega⟩ [] ⟨rfl, rfl, rfl, rfl, rfl, rfl, trivial⟩ rfl
  refine boolK_dec (fun hc => ?_) (fun hc => ?_)
  · have hlt : i < a.length := by omega
    obtain ⟨c, hcg⟩ : ∃ c, a[i]? = some c := ⟨_, List.getElem?_eq_getElem hlt⟩
    obtain ⟨d, hdg⟩ : ∃ c, b[i]? = some c := ⟨_, List.getElem?_eq_getElem (show i < b.length by omega)⟩
    obtain ⟨g1, g2⟩ := flat_get ct_len hcg
    obtain ⟨f1, f2⟩ := flat_get ct_len hdg
    refine needK_has (by (first | rfl | (simp; done) | (simp; omega))) ?_
    refine secK_has g1 g2 ?_
    refine hgetK_last ?_
    refine needK_has rfl ?_
    refine eqK_has_eq (ct c) rfl ?_
    rw [hset_last]
    refine needK_has (by (first | rfl | (simp; done) | (simp; omega))) ?_
    refine secK_has f1 f2 ?_
    refine hgetK_last ?_
    refine needK_has rfl ?_
    refine eqK_has_eq (ct d) rfl ?_
    rw [hset_last]
    refine hgetK_has (.pcells (ct c)) ((hget_app _ (by simp)).trans (hget_append_same _ _)) ?_
    refine secK_has (v := ct c) rfl (of_decide_eq_true rfl) ?_
    refine hgetK_last ?_
    refine secK_has (v := ct d) rfl (of_decide_eq_true rfl) ?_
    refine callPK_dec (alike_p c d) (fun e => ?_) (fun e => ?_)
    · refine eqK_has_eq _ (i64_succ (by omega)) ?_
      refine Has.intro ⟨i + 1, ⟨hlt, fun j c' d' hj h1 h2 => ?_⟩, by omega, ⟨rfl, rfl, rfl, rfl, rfl, rfl, trivial⟩, _, rfl⟩
      by_cases ej : j = i
      · subst ej
        rw [hcg] at h1; rw [hdg] at h2
        injection h1 with h1; injection h2 with h2
        rw [← h1, ← h2]; exact e
      · exact hA j c' d' (by omega) h1 h2
    · exact Has.intro (Has.intro (Has.intro (no (fun h => e (h.2 i c d hcg hdg)))))
  · have : i = a.length := by omega
    subst this
    exact Has.intro (Has.intro (Has.intro (yes ⟨hab, fun j c d h1 h2 => hA j c d (List.getElem?_eq_some_iff.1 h1).1 h1 h2⟩)))
set_option maxHeartbeats 1000000 in
theorem kin_ok (x y : Ext) (a b : Pd) (hl : a.l.length ≤ maxLen) : EP (EE env) 76 [.agg (pdc a x), .agg (pdc b y)] = some (.bool (decide (kinP a b))) := by
  refine Has.eq (EP_has ?_)
  (repeat (first | refine hgetK_last ?_ | refine hgetK_has _ rfl ?_ | refine getK_has rfl ?_ | refine secK_has rfl (of_decide_eq_true rfl) ?_ | refine needK_has rfl ?_))
  refine boolK_has_eq (c := decide (a.name = b.name)) (str_beq _ _) ?_
  by_cases h1 : a.name = b.name
  rotate_left
  · rw [decide_eq_false h1]
    exact Has.intro (Has.intro (no (fun h => h1 h.1)))
  rw [decide_eq_true h1]
  (repeat (first | refine hgetK_last ?_ | refine hgetK_has _ rfl ?_ | refine getK_has rfl ?_ | refine secK_has rfl (of_decide_eq_true rfl) ?_ | refine needK_has rfl ?_))
  refine boolK_beq (fun h2 => ?_) (fun h2 => ?_)
  rotate_left
  · exact Has.intro (Has.intro (no (fun h => h2 h.2.1)))
  (repeat (first | refine hgetK_last ?_ | refine hgetK_has _ rfl ?_ | refine getK_has rfl ?_ | refine secK_has rfl (of_decide_eq_true rfl) ?_ | refine needK_has rfl ?_))
  refine boolK_beq (fun h3 => ?_) (fun h3 => ?_)
  rotate_left
  · exact Has.intro (Has.intro (no (fun h => h3 h.2.2.1)))
  (repeat (first | refine hgetK_last ?_ | refine hgetK_has _ rfl ?_ | refine getK_has rfl ?_ | refine secK_has rfl (of_decide_eq_true rfl) ?_ | refine needK_has rfl ?_))
  refine callPK_dec (equalF_ok x y a.l b.l hl) (fun h4 => ?_) (fun h4 => ?_)
  · exact Has.intro (Has.intro (yes ⟨h1, h2, h3, h4⟩))
  · exact Has.intro (Has.intro (no (fun h => h4 h.2.2.2)))
end Go.Proofs.Ytflfdglnelbbiaa

namespace Go.Proofs.Ytflfdglnelbbiaa
open Go Go.VM

structure En where
  d : Pd
  a : Pd
  dx : Ext
  ax : Ext
  age : Int
  due : Int
def en (e : En) : List PV := pdc e.d e.dx ++ pdc e.a e.ax ++ [.int .i64 e.age, .int .i64 e.due]
theorem en_len (e : En) : (en e).length = 10 := rfl
def smallE (e : En) : Prop := small e.d ∧ small e.a
def entP (e : En) : Prop := podP e.d ∧ podP e.a ∧ kinP e.d e.a ∧ classI e.d.l = classI e.a.l ∧ (0 ≤ e.age ∧ e.age ≤ 1099511627776) ∧ 0 ≤ e.due ∧ e.due < 2 ^ e.d.l.length
noncomputable instance (e : En) : Decidable (entP e) := Classical.propDecidable _
theorem six {n : Nat} (h : 1 ≤ n ∧ n ≤ 6) : n = 1 ∨ n = 2 ∨ n = 3 ∨ n = 4 ∨ n = 5 ∨ n = 6 := by omega
theorem shl1 {n : Nat} (h : 1 ≤ n ∧ n ≤ 6) : IntKind.i64.wrap (1 * 2 ^ (min ((n : Nat) : Int).toNat IntKind.i64.bits)) = 2 ^ n := by
  rcases six h with rfl | rfl | rfl | rfl | rfl | rfl <;> rfl
set_option maxHeartbeats 2000000 in
theorem ent_ok (e : En) (hs : smallE e) : EP (EE env) 69 [.agg (en e)] = some (.bool (decide (entP e))) := by
  obtain ⟨s1, s2⟩ := hs
  refine Has.eq (EP_has ?_)
  (refine hgetK_has (.pcells (en e)) rfl ?_)
  (refine secK_has (v := pdc e.d e.dx) rfl (of_decide_eq_true rfl) ?_)
  refine callPK_dec (pod_p e.dx e.d s1) (fun h1 => ?_) (fun h1 => ?_)
  rotate_left
  · exact Has.intro (Has.intro (no fun h => h1 h.1))
  (refine hgetK_has (.pcells (en e)) rfl ?_)
  (refine secK_has (v := pdc e.a e.ax) rfl (of_decide_eq_true rfl) ?_)
  refine callPK_dec (pod_p e.ax e.a s2) (fun h2 => ?_) (fun h2 => ?_)
  rotate_left
  · exact Has.intro (Has.intro (no fun h => h2 h.2.1))
  (refine hgetK_has (.pcells (en e)) rfl ?_)
  (refine secK_has (v := pdc e.d e.dx) rfl (of_decide_eq_true rfl) ?_)
  (refine hgetK_has (.pcells (en e)) rfl ?_)
  (refine secK_has (v := pdc e.a e.ax) rfl (of_decide_eq_true rfl) ?_)
  refine callPK_dec (kin_ok e.dx e.ax e.d e.a s1.2.1) (fun h3 => ?_) (fun h3 => ?_)
  rotate_left
  · exact Has.intro (Has.intro (no fun h => h3 h.2.2.1))
  (refine hgetK_has (.pcells (en e)) rfl ?_)
  (refine secK_has (v := pdc e.d e.dx) rfl (of_decide_eq_true rfl) ?_)
  refine callPK_has (class_p e.dx e.d s1.2.1) ?_
  (refine hgetK_has (.pcells (en e)) rfl ?_)
  (refine secK_has (v := pdc e.a e.ax) rfl (of_decide_eq_true rfl) ?_)
  refine callPK_has (class_p e.ax e.a s2.2.1) ?_
  refine boolK_beq (fun h4 => ?_) (fun h4 => ?_)
  rotate_left
  · exact Has.intro (Has.intro (no fun h => h4 h.2.2.2.1))
  (refine hgetK_has (.pcells (en e)) rfl ?_)
  refine getK_has rfl ?_
  refine boolK_dec (fun h5 => ?_) (fun h5 => ?_)
  rotate_left
  · exact Has.intro (Has.intro (no fun h => h5 h.2.2.2.2.1.1))
  (refine hgetK_has (.pcells (en e)) rfl ?_)
  refine getK_has rfl ?_
  refine boolK_dec (fun h6 => ?_) (fun h6 => ?_)
  rotate_left
  · exact Has.intro (Has.intro (no fun h => h6 h.2.2.2.2.1.2))
  (refine hgetK_has (.pcells (en e)) rfl ?_)
  refine getK_has rfl ?_
  refine boolK_dec (fun h7 => ?_) (fun h7 => ?_)
  rotate_left
  · exact Has.intro (Has.intro (no fun h => h7 h.2.2.2.2.2.1))
  (refine hgetK_has (.pcells (en e)) rfl ?_)
  refine getK_has rfl ?_
  (refine hgetK_has (.pcells (en e)) rfl ?_)
  refine getK_has rfl ?_
  refine needK_has (by (first | rfl | (simp; done) | (simp; omega))) ?_
  refine eqK_has_eq _ (shl1 h1.2.2.2.1) ?_
  refine boolK_dec (fun h8 => ?_) (fun h8 => ?_)
  · exact Has.intro (Has.intro (yes ⟨h1, h2, h3, h4, ⟨h5, h6⟩, h7, h8⟩))
  · exact Has.intro (Has.intro (no fun h => h8 h.2.2.2.2.2.2))
theorem pow_step {i : Nat} (h : i ≤ 6) : IntKind.i64.wrap ((2 : Int) ^ i * 2) = 2 ^ (i + 1) := by
  have : i = 0 ∨ i = 1 ∨ i = 2 ∨ i = 3 ∨ i = 4 ∨ i = 5 ∨ i = 6 := by omega
  rcases this with rfl | rfl | rfl | rfl | rfl | rfl | rfl <;> rfl
end Go.Proofs.Ytflfdglnelbbiaa

namespace Go.Proofs.Ytflfdglnelbbiaa
open Go Go.VM

/-! ### texts in order -/
def lt (a b : List UInt8) : Bool := Op.bytesLess a b
theorem lt_irr (a : List UInt8) : lt a a = false := by
  induction a with
  | nil => rfl
  | cons x a ih => simp only [lt, Op.bytesLess] at ih ⊢; simp [ih]
theorem lt_cons (x y : UInt8) (a b : List UInt8) : lt (x :: a) (y :: b) = (decide (x.toNat < y.toNat) || (decide (x = y) && lt a b)) := by
  show (decide (x < y) || (x == y && Op.bytesLess a b)) = _
  rw [show (x == y) = decide (x = y) from rfl]
  simp only [UInt8.lt_iff_toNat_lt]
  rfl
theorem lt_asym : ∀ (a b : List UInt8), lt a b = true → lt b a = false := by
  intro a
  induction a with
  | nil => intro b; cases b <;> simp [lt, Op.bytesLess]
  | cons x a ih =>
    intro b
    cases b with
    | nil => simp [lt, Op.bytesLess]
    | cons y b =>
      rw [lt_cons, lt_cons]
      intro h
      simp only [Bool.or_eq_true, Bool.and_eq_true, decide_eq_true_eq, Bool.or_eq_false_iff, Bool.and_eq_false_iff, decide_eq_false_iff_not] at h ⊢
      rcases h with h | ⟨h1, h2⟩
      · exact ⟨by omega, .inl fun e => by subst e; omega⟩
      · subst h1; exact ⟨by omega, .inr (ih _ h2)⟩
theorem lt_tri : ∀ (a b : List UInt8), lt a b = false → lt b a = false → a = b := by
  intro a
  induction a with
  | nil => intro b; cases b <;> simp [lt, Op.bytesLess]
  | cons x a ih =>
    intro b
    cases b with
    | nil => simp [lt, Op.bytesLess]
    | cons y b =>
      rw [lt_cons, lt_cons]
      intro h g
      simp only [Bool.or_eq_false_iff, Bool.and_eq_false_iff, decide_eq_false_iff_not] at h g
      have e : x = y := UInt8.toNat_inj.1 (by omega)
      subst e
      rw [ih b (h.2.resolve_left (fun h => h rfl)) (g.2.resolve_left (fun h => h rfl))]
theorem lt_trans : ∀ (a b c : List UInt8), lt a b = true → lt b c = true → lt a c = true := by
  intro a
  induction a with
  | nil => intro b c h g; cases b <;> cases c <;> simp_all [lt, Op.bytesLess]
  | cons x a ih =>
    intro b c h g
    cases b with
    | nil => simp [lt, Op.bytesLess] at h
    | cons y b =>
      cases c with
      | nil => simp [lt, Op.bytesLess] at g
      | cons z c =>
        rw [lt_cons] at h g ⊢
        simp only [Bool.or_eq_true, Bool.and_eq_true, decide_eq_true_eq] at h g ⊢
        rcases h with h | ⟨h1, h2⟩
        · rcases g with g | ⟨g1, g2⟩
          · exact .inl (by omega)
          · subst g1; exact .inl h
        · subst h1
          rcases g with g | ⟨g1, g2⟩
          · exact .inl g
          · exact .inr ⟨g1, ih _ _ h2 g2⟩
theorem str_lss (a b : List UInt8) : Op.bytesLess (⟨a.toArray⟩ : ByteArray).toList (⟨b.toArray⟩ : ByteArray).toList = lt a b := by
  unfold lt; simp
theorem str_gtr (a b : List UInt8) : (!(Op.bytesLess (⟨a.toArray⟩ : ByteArray).toList (⟨b.toArray⟩ : ByteArray).toList || (⟨a.toArray⟩ : ByteArray).toList == (⟨b.toArray⟩ : ByteArray).toList)) = lt b a := by
  rw [str_lss, str_beq]
  cases h : lt a b with
  | true => simp [lt_asym a b h]
  | false =>
    by_cases e : a = b
    · subst e; simp [h]
    · simp only [Bool.false_or, decide_eq_false e, Bool.not_false]
      cases g : lt b a with
      | true => rfl
      | false => exact absurd (lt_tri a b h g) e
def cmpS (a b : List UInt8) : Int := if lt a b then -1 else if lt b a then 1 else 0
def cmpI (a b : Int) : Int := if a < b then -1 else if b < a then 1 else 0
theorem nan_s (a : List UInt8) : EP (EE env) 82 [sv a] = some (.bool false) := by
  refine Has.eq (EP_has ?_)
  refine boolK_has_eq (c := false) (by rw [str_bne]; simp) ?_
  exact Has.intro (Has.intro rfl)
theorem nan_i (a : Int) : EP (EE env) 83 [.int .i64 a] = some (.bool false) := by
  refine Has.eq (EP_has ?_)
  refine boolK_bne (fun h => absurd rfl h) (fun h => ?_)
  exact Has.intro (Has.intro rfl)
theorem cmpS_ok (a b : List UInt8) : EP (EE env) 73 [sv a, sv b] = some (.int .i64 (cmpS a b)) := by
  refine Has.eq (EP_has ?_)
  refine callPK_has (nan_s a) ?_
  refine callPK_has (nan_s b) ?_
  refine boolK_has_eq (str_lss a b) ?_
  unfold cmpS
  cases lt a b
  · refine boolK_has_eq (str_gtr a b) ?_
    cases lt b a
    · exact Has.intro (Has.intro rfl)
    · exact Has.intro (Has.intro rfl)
  · exact Has.intro (Has.intro rfl)
theorem cmpI_ok (a b : Int) : EP (EE env) 74 [.int .i64 a, .int .i64 b] = some (.int .i64 (cmpI a b)) := by
  refine Has.eq (EP_has ?_)
  refine callPK_has (nan_i a) ?_
  refine callPK_has (nan_i b) ?_
  unfold cmpI
  refine boolK_dec (fun h => ?_) (fun h => ?_)
  · rw [if_pos h]; exact Has.intro (Has.intro rfl)
  rw [if_neg h]
  refine boolK_dec (fun h => ?_) (fun h => ?_)
  · rw [if_pos h]; exact Has.intro (Has.intro rfl)
  · rw [if_neg h]; exact Has.intro (Has.intro rfl)
structure Ow where
  pod : List UInt8
  ctr : List UInt8
  kind : Int
def ow (o : Ow) : List PV := [sv o.pod, sv o.ctr, .int .i64 o.kind]
def or3 (a b c : Int) : Int := if a ≠ 0 then a else if b ≠ 0 then b else c
theorem or3_ok (a b c : Int) (x : Ext) : EP (EE env) 72 [.sl x 3 [.int .i64 a, .int .i64 b, .int .i64 c]] = some (.int .i64 (or3 a b c)) := by
  refine Has.eq (EP_has ?_)
  refine loopK_has ?_
  refine iterE_loop (σ := Nat) (fun i => 3 - i) (fun i => [(3, .pv (.int .i64 0)), (6, .pv (.sl x 3 [.int .i64 a, .int .i64 b, .int .i64 c])), (7, .pv (.int .i64 3)), (8, .pv (.int .i64 i))]) (fun _ => [])
    (fun i => i ≤ 3 ∧ (0 < i → a = 0) ∧ (1 < i → b = 0) ∧ (2 < i → c = 0)) (fun i ⟨hi, q0, q1, q2⟩ r => ?_) 0 ⟨by decide, by omega, by omega, by omega⟩ ⟨rfl, rfl, rfl, rfl, trivial⟩ rfl
  refine boolK_dec (fun hc => ?_) (fun hc => ?_)
  · have h3 : i = 0 ∨ i = 1 ∨ i = 2 := by omega
    rcases h3 with rfl | rfl | rfl
    · refine needK_has rfl ?_
      refine getK_has rfl ?_
      refine boolK_bne (fun h => ?_) (fun h => ?_)
      · exact Has.intro (Has.intro (Has.intro (by unfold or3; rw [if_pos h])))
      · refine eqK_has_eq _ (i64_succ (by omega)) ?_
        exact Has.intro ⟨1, ⟨by decide, fun _ => h, by omega, by omega⟩, by decide, ⟨rfl, rfl, rfl, rfl, trivial⟩, rfl⟩
    · have qa := q0 (by decide)
      refine needK_has rfl ?_
      refine getK_has rfl ?_
      refine boolK_bne (fun h => ?_) (fun h => ?_)
      · exact Has.intro (Has.intro (Has.intro (by unfold or3; rw [if_neg (fun g => g qa), if_pos h])))
      · refine eqK_has_eq _ (i64_succ (by omega)) ?_
        exact Has.intro ⟨2, ⟨by decide, fun _ => qa, fun _ => h, by omega⟩, by decide, ⟨rfl, rfl, rfl, rfl, trivial⟩, rfl⟩
    · have qa := q0 (by decide)
      have qb := q1 (by decide)
      refine needK_has rfl ?_
      refine getK_has rfl ?_
      refine boolK_bne (fun h => ?_) (fun h => ?_)
      · exact Has.intro (Has.intro (Has.intro (by unfold or3; rw [if_neg (fun g => g qa), if_neg (fun g => g qb)])))
      · refine eqK_has_eq _ (i64_succ (by omega)) ?_
        exact Has.intro ⟨3, ⟨by decide, fun _ => qa, fun _ => qb, fun _ => h⟩, by decide, ⟨rfl, rfl, rfl, rfl, trivial⟩, rfl⟩
  · have e : i = 3 := by omega
    subst e
    exact Has.intro (Has.intro (Has.intro (by unfold or3; rw [if_neg (fun g => g (q0 (by decide))), if_neg (fun g => g (q1 (by decide))), q2 (by decide)])))
def cmpO (a b : Ow) : Int := or3 (cmpS a.pod b.pod) (cmpS a.ctr b.ctr) (cmpI a.kind b.kind)
theorem compare_ok (a b : Ow) : EP (EE env) 59 [.agg (ow a), .agg (ow b)] = some (.int .i64 (cmpO a b)) := by
  refine Has.eq (EP_has ?_)
  (repeat (first | refine hgetK_last ?_ | refine hgetK_has _ rfl ?_ | refine getK_has rfl ?_ | refine secK_has rfl (of_decide_eq_true rfl) ?_ | refine needK_has rfl ?_))
  refine callPK_has (cmpS_ok a.pod b.pod) ?_
  (repeat (first | refine hgetK_last ?_ | refine hgetK_has _ rfl ?_ | refine getK_has rfl ?_ | refine secK_has rfl (of_decide_eq_true rfl) ?_ | refine needK_has rfl ?_))
  refine callPK_has (cmpS_ok a.ctr b.ctr) ?_
  (repeat (first | refine hgetK_last ?_ | refine hgetK_has _ rfl ?_ | refine getK_has rfl ?_ | refine secK_has rfl (of_decide_eq_true rfl) ?_ | refine needK_has rfl ?_))
  refine callPK_has (cmpI_ok a.kind b.kind) ?_
  refine callPK_has (or3_ok _ _ _ _) ?_
  exact Has.intro (Has.intro rfl)
def ahead (a b : Ow) : Bool := if a.pod ≠ b.pod then lt a.pod b.pod else if a.ctr ≠ b.ctr then lt a.ctr b.ctr else decide (a.kind < b.kind)
theorem cmp_ahead (a b : Ow) : cmpO a b < 0 ↔ ahead a b = true := by
  unfold cmpO ahead or3 cmpS cmpI
  by_cases h1 : a.pod = b.pod
  · simp only [h1, lt_irr]
    by_cases h2 : a.ctr = b.ctr
    · simp only [h2, lt_irr]
      by_cases h3 : a.kind < b.kind
      · simp [h3]
      · by_cases h4 : b.kind < a.kind <;> simp [h3, h4]
    · simp only [ne_eq, h2, not_false_eq_true, if_true, not_true_eq_false, if_false, Bool.false_eq_true]
      cases g : lt a.ctr b.ctr
      · cases g2 : lt b.ctr a.ctr
        · exact absurd (lt_tri _ _ g g2) h2
        · simp
      · simp
  · simp only [ne_eq, h1, not_false_eq_true, if_true]
    cases g : lt a.pod b.pod
    · cases g2 : lt b.pod a.pod
      · exact absurd (lt_tri _ _ g g2) h1
      · simp
    · simp

/-! ### entries by name -/
def findEF (name : List UInt8) : Nat → List En → Int
  | _, [] => -1
  | i, e :: l => if e.d.name = name then (i : Int) else findEF name (i + 1) l
def findE (name : List UInt8) (l : List En) : Int := findEF name 0 l
theorem findEF_step {name : List UInt8} {l : List En} {i : Nat} {c : En} (h : l[i]? = some c) : findEF name i (l.drop i) = if c.d.name = name then (i : Int) else findEF name (i + 1) (l.drop (i + 1)) := by
  rw [drop_of h]; rfl
structure Ho where
  o : Ow
  sp : List Int
def hoc (h : Ho) : List PV := ow h.o ++ h.sp.map (PV.int .i64)
structure St where
  next : Int
  es : List En
  hs : List Ho
def stc (s : St) (x y : Ext) : List PV := [.int .i64 s.next, .sl x s.es.length (flat en s.es), .sl y s.hs.length (flat hoc s.hs)]
theorem isE_ok (c : En) (name : List UInt8) (q : Nat) (H : Heap) (hq : hget H q = .pcells [sv name]) :
    EE env (.fn 79) [.pv (.agg (en c)), .ptr q 0] H = some (.pv (.bool (decide (c.d.name = name))), H ++ [.pcells (en c)]) := by
  refine Has.eq (EE_has ?_)
  refine hgetK_last ?_
  refine getK_has rfl ?_
  refine hgetK_has _ ((hget_app _ (hget_lt hq (by intro h; cases h))).trans hq) ?_
  refine getK_has rfl ?_
  refine boolK_has_eq (c := decide (c.d.name = name)) (str_beq c.d.name name) ?_
  exact Has.intro rfl
set_option maxHeartbeats 1000000 in
theorem indexE_ok (x : Ext) (l : List En) (hl : l.length ≤ maxLen) (name : List UInt8) (q : Nat) (H : Heap) (hq : hget H q = .pcells [sv name]) :
    Has (EE env (.fn 78) [.pv (.sl x l.length (flat en l)), .fn 79 [] [.ptr q 0]] H) (fun y => y.1 = .pv (.int .i64 (findE name l)) ∧ ∃ J, y.2 = H ++ J) := by
  rw [maxLen_eq] at hl
  refine EE_has ?_
  refine loopK_has ?_
  refine iterE_loopJ (σ := Nat) (fun i => l.length - i) (fun i => [(0, .pv (.sl x l.length (flat en l))), (1, .fn 79 [] [.ptr q 0]), (6, .pv (.sl x l.length (flat en l))), (7, .pv (.int .i64 l.length)), (8, .pv (.int .i64 i))]) (fun _ => H) (fun i => i ≤ l.length ∧ findE name l = findEF name i (l.drop i)) (fun i ⟨hi, he⟩ r J => ?_) 0 ⟨Nat.zero_le _, rfl⟩ [] ⟨rfl, rfl, rfl, rfl, rfl, trivial⟩ (List.append_nil _).symm
  refine boolK_dec (fun hc => ?_) (fun hc => ?_)
  · have hlt : i < l.length := by omega
    obtain ⟨c, hcg⟩ : ∃ c, l[i]? = some c := ⟨_, List.getElem?_eq_getElem hlt⟩
    obtain ⟨g1, g2⟩ := flat_get en_len hcg
    rw [findEF_step hcg] at he
    have hq' := (hget_app J (hget_lt hq ((by intro h; cases h)))).trans hq
    refine needK_has (by (first | rfl | (simp; done) | (simp; omega))) ?_
    refine secK_has g1 g2 ?_
    refine callSK_has (isE_ok c name q _ hq') ?_
    by_cases hn : c.d.name = name
    · rw [decide_eq_true hn]
      rw [if_pos hn] at he
      refine Has.intro (Has.intro ⟨?_, _, List.append_assoc _ _ _⟩)
      rw [he]; rfl
    · rw [decide_eq_false hn]
      rw [if_neg hn] at he
      refine eqK_has_eq _ (i64_succ (by omega)) ?_
      exact Has.intro ⟨i + 1, ⟨hlt, he⟩, by omega, ⟨rfl, rfl, rfl, rfl, rfl, trivial⟩, _, List.append_assoc _ _ _⟩
  · have : i = l.length := by omega
    subst this
    rw [List.drop_length] at he
    refine Has.intro (Has.intro ⟨?_, J, rfl⟩)
    rw [he]; rfl
theorem findE_ok (s : St) (x y : Ext) (hl : s.es.length ≤ maxLen) (name : List UInt8) : EP (EE env) 70 [.agg (stc s x y), sv name] = some (foundB (findE name s.es)) := by
  refine Has.eq (EP_has ?_)
  (repeat (first | refine hgetK_last ?_ | refine hgetK_has _ rfl ?_ | refine getK_has rfl ?_ | refine secK_has rfl (of_decide_eq_true rfl) ?_ | refine needK_has rfl ?_))
  refine callSK_has' ((indexE_ok x s.es hl name 1 [.pcells (stc s x y), .pcells [sv name]] rfl).mono fun y hy => ?_)
  obtain ⟨v, H'⟩ := y
  obtain ⟨rfl, J, rfl⟩ := hy
  refine eqK_has ?_
  refine boolK_has_keep ?_
  exact Has.intro (Has.intro rfl)
end Go.Proofs.Ytflfdglnelbbiaa
