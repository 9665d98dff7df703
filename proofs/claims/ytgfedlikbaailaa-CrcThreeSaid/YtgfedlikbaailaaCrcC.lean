/-
  CrcThree, in the abstract machine.
-/
import Derived.Test.YtgfedlikbaailaaCrcB
set_option linter.all false
set_option linter.unusedVariables false
set_option linter.unusedSimpArgs false
set_option linter.unusedSectionVars false
namespace Go.Proofs.Ytgfedlikbaailaa
open Go Go.VM

theorem crc_three (a b c : List UInt8) (h1 : a.length = b.length) (h2 : a.length = c.length) : crc (List.zipWith (· ^^^ ·) (List.zipWith (· ^^^ ·) a b) c) = crc a ^^^ crc b ^^^ crc c := by
  unfold crc
  have e1 : (0xffffffff#32 : BitVec 32) = (0xffffffff#32 ^^^ 0xffffffff#32) ^^^ 0xffffffff#32 := by decide
  have h3 := sum_xor (List.zipWith (· ^^^ ·) a b) c (0xffffffff#32 ^^^ 0xffffffff#32) 0xffffffff#32 (by simp [h1]; omega)
  have h4 := sum_xor a b 0xffffffff#32 0xffffffff#32 h1
  rw [← e1, h4] at h3
  rw [h3]
  generalize sum 0xffffffff#32 a = x
  generalize sum 0xffffffff#32 b = y
  generalize sum 0xffffffff#32 c = z
  ext i hi
  simp

/-- Three rows, laid over one another up to i; zeros behind. -/
def laid (a b c : List UInt8) (n i : Nat) : List UInt8 := List.zipWith (· ^^^ ·) (List.zipWith (· ^^^ ·) (a.take i) (b.take i)) (c.take i) ++ List.replicate (n - i) 0
theorem laid_len (a b c : List UInt8) (n i : Nat) (ha : n ≤ a.length) (hb : n ≤ b.length) (hc : n ≤ c.length) (hi : i ≤ n) : (laid a b c n i).length = n := by
  simp [laid]; omega
theorem laid_succ {a b c : List UInt8} {n i : Nat} (ha : n ≤ a.length) (hb : n ≤ b.length) (hc : n ≤ c.length) (hi : i < n) {x y z : UInt8} (hx : a[i]? = some x) (hy : b[i]? = some y) (hz : c[i]? = some z) :
    (laid a b c n i).set i (x ^^^ y ^^^ z) = laid a b c n (i + 1) := by
  have hl : (List.zipWith (· ^^^ ·) (List.zipWith (· ^^^ ·) (a.take i) (b.take i)) (c.take i) : List UInt8).length = i := by simp; omega
  unfold laid
  rw [List.set_append_right _ _ (by omega), hl, Nat.sub_self]
  have hr : List.replicate (n - i) (0 : UInt8) = 0 :: List.replicate (n - (i + 1)) 0 := by
    rw [show n - i = (n - (i + 1)) + 1 by omega]; rfl
  rw [hr, List.set_cons_zero]
  rw [List.take_add_one (l := a), List.take_add_one (l := b), List.take_add_one (l := c), hx, hy, hz]
  rw [List.zipWith_append (by simp; omega), List.zipWith_append (by simp; omega)]
  simp

theorem min_eq (a b : Nat) : (bif false then (if (b : Int) > (a : Int) then (b : Int) else (a : Int)) else (if (b : Int) < (a : Int) then (b : Int) else (a : Int))) = ((min a b : Nat) : Int) := by
  simp only [cond_false]
  split <;> omega

theorem three_ok (ps : List PV) (h : HasArgs [.sl 1 (.int .u8), .sl 1 (.int .u8), .sl 1 (.int .u8)] ps) : ∃ H', EE env (.fn 4) (ps.map .pv) [] = some (.pv (.bool true), H') := by
  obtain ⟨p1, _, rfl, h1, p2, _, rfl, h2, p3, _, rfl, h3, rfl⟩ := h
  obtain ⟨xa, a, rfl, la, _⟩ := arg_bytes h1
  obtain ⟨xb, b, rfl, lb, _⟩ := arg_bytes h2
  obtain ⟨xc, c, rfl, lc, _⟩ := arg_bytes h3
  clear h1 h2 h3
  suffices H : Has (EE env (.fn 4) ([PV.sl xa a.length (bc a), PV.sl xb b.length (bc b), PV.sl xc c.length (bc c)].map .pv) []) (fun x => x.1 = .pv (.bool true)) by
    obtain ⟨⟨v, H'⟩, g1, g2⟩ := H
    exact ⟨H', by rw [g1]; simp only at g2; rw [g2]⟩
  refine EE_has ?_
  refine callPK_has first_ok ?_
  refine eqK_has_eq _ (min_eq _ _) ?_
  refine eqK_has_eq _ (min_eq _ _) ?_
  refine eqK_has_eq _ (min_eq _ 2000) ?_
  generalize hn : min (min (min a.length b.length) c.length) 2000 = n
  have ha : n ≤ a.length := by omega
  have hb : n ≤ b.length := by omega
  have hc : n ≤ c.length := by omega
  have h2000 : n ≤ 2000 := by omega
  refine needK_has (by simp; omega) ?_
  refine eqK_has_eq _ (bc_zeros _) ?_
  refine loopK_has ?_
  refine iterE_up n (fun i => [(0, .pv (.sl xa a.length (bc a))), (1, .pv (.sl xb b.length (bc b))), (2, .pv (.sl xc c.length (bc c))), (7, .pv (.int .i64 n)), (8, .hs 1 0 0 n n), (21, .hs 1 0 0 n n), (22, .pv (.int .i64 n)), (23, .pv (.int .i64 i))])
    (fun i => [.pcells (bc (laid a b c n i))]) (fun i hi r => ?_) (fun r => ?_) ?_ ?_
  · refine boolK_has_true (decide_eq_true (by omega)) ?_
    obtain ⟨x, hx⟩ : ∃ x, a[i]? = some x := ⟨a[i], List.getElem?_eq_getElem (by omega)⟩
    obtain ⟨y, hy⟩ : ∃ y, b[i]? = some y := ⟨b[i], List.getElem?_eq_getElem (by omega)⟩
    obtain ⟨z, hz⟩ : ∃ z, c[i]? = some z := ⟨c[i], List.getElem?_eq_getElem (by omega)⟩
    refine needK_has (by simp; omega) ?_
    refine getK_has (bc_get hx) ?_
    refine needK_has (by simp; omega) ?_
    refine getK_has (bc_get hy) ?_
    refine eqK_has_eq _ (u8_xor _ _) ?_
    refine needK_has (by simp; omega) ?_
    refine getK_has (bc_get hz) ?_
    refine eqK_has_eq _ (u8_xor _ _) ?_
    refine needK_has (by simp; omega) ?_
    refine hgetK_has _ rfl ?_
    refine needK_has (by
      show Nat.blt i (bc (laid a b c n i)).length = true
      rw [bc_length, laid_len a b c n i ha hb hc (by omega)]
      exact Nat.ble_eq_true_of_le hi) ?_
    refine eqK_has_eq _ (show (bc (laid a b c n i)).set i (.int .u8 ((x ^^^ y ^^^ z).toNat : Int)) = bc (laid a b c n (i + 1)) by rw [bc_set, laid_succ ha hb hc hi hx hy hz]) ?_
    refine eqK_has_eq _ (i64_succ (by omega)) ?_
    exact Has.intro ⟨⟨rfl, rfl, rfl, rfl, rfl, rfl, rfl, rfl, trivial⟩, rfl⟩
  · refine boolK_has_false (decide_eq_false (by omega)) ?_
    refine Has.intro ?_
    have e0 : laid a b c n n = List.zipWith (· ^^^ ·) (List.zipWith (· ^^^ ·) (a.take n) (b.take n)) (c.take n) := by simp [laid]
    have l0 : (laid a b c n n).length = n := laid_len a b c n n ha hb hc (Nat.le_refl _)
    refine hgetK_has _ rfl ?_
    refine secK_has (v := bc (laid a b c n n)) (by rw [List.drop_zero]; exact List.take_of_length_le (by rw [bc_length, l0]; exact Nat.le_refl _)) (by rw [bc_length, l0, Nat.zero_add]; exact Nat.le_refl _) ?_
    have o0 := of1 .exact .unk (laid a b c n n) (by rw [l0, maxLen_eq]; omega)
    rw [l0] at o0
    refine callPK_has o0 ?_
    refine needK_has (by simp; omega) ?_
    refine eqK_has_eq _ (bc_take a n) ?_
    have o1 := of1 .exact (xa.part false false) (a.take n) (by rw [List.length_take]; omega)
    rw [List.length_take, Nat.min_eq_left ha] at o1
    refine callPK_has o1 ?_
    refine needK_has (by simp; omega) ?_
    refine eqK_has_eq _ (bc_take b n) ?_
    have o2 := of1 .exact (xb.part false false) (b.take n) (by rw [List.length_take]; omega)
    rw [List.length_take, Nat.min_eq_left hb] at o2
    refine callPK_has o2 ?_
    refine eqK_has_eq _ (u32_xor _ _) ?_
    refine needK_has (by simp; omega) ?_
    refine eqK_has_eq _ (bc_take c n) ?_
    have o3 := of1 .exact (xc.part false false) (c.take n) (by rw [List.length_take]; omega)
    rw [List.length_take, Nat.min_eq_left hc] at o3
    refine callPK_has o3 ?_
    refine eqK_has_eq _ (u32_xor _ _) ?_
    have hcrc := crc_three (a.take n) (b.take n) (c.take n) (by simp; omega) (by simp; omega)
    rw [← e0] at hcrc
    refine boolK_has_true (by rw [hcrc]; simp) ?_
    exact Has.intro rfl
  · exact ⟨rfl, rfl, rfl, rfl, rfl, rfl, rfl, rfl, trivial⟩
  · simp [laid]
end Go.Proofs.Ytgfedlikbaailaa
