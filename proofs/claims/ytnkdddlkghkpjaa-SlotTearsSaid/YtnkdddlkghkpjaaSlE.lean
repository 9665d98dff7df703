/-
  What a slot has.
-/
import Derived.Test.YtnkdddlkghkpjaaSlD
set_option linter.all false
set_option linter.unusedVariables false
set_option linter.unusedSimpArgs false
set_option linter.unusedSectionVars false
namespace Go.Proofs.Ytnkdddlkghkpjaa
open Go Go.VM

def gN (s : List UInt8) : Nat := num ((s.take 12).drop 4)
def nN (s : List UInt8) : Nat := num ((s.take 16).drop 12)
def bodyN (s : List UInt8) : List UInt8 := (s.take (16 + nN s)).drop 16
def getM (s : List UInt8) : Nat × List UInt8 × Int :=
  if s.length < 4 then (0, [], 10) else if s.take 4 ≠ magic then (0, [], 11) else if s.length < 16 then (0, [], 10)
  else if gN s < 1 ∨ gN s > 1152921504606846976 then (0, [], 11) else if nN s > 65536 then (0, [], 15) else if s.length < 20 + nN s then (0, [], 10)
  else if frame (gN s) (bodyN s) ≠ s.take (20 + nN s) then (0, [], 14) else (gN s, bodyN s, 0)
def getX (s : List UInt8) : Ext := if (getM s).2.2 = 0 then cx (getM s).2.1 else .nil
def getV (s : List UInt8) : PV := .tup [.int .i64 (getM s).1, .sl (getX s) (getM s).2.1.length (bc (getM s).2.1), .int .i64 (getM s).2.2]
theorem getV_err {s : List UInt8} {e : Int} (h : getM s = (0, [], e)) (he : e ≠ 0) : getV s = .tup [.int .i64 0, .sl .nil 0 [], .int .i64 e] := by
  unfold getV getX; rw [h, if_neg he]; rfl
theorem getV_ok {s b : List UInt8} {g : Nat} (h : getM s = (g, b, 0)) : getV s = .tup [.int .i64 g, .sl (cx b) b.length (bc b), .int .i64 0] := by
  unfold getV getX; rw [h, if_pos rfl]
theorem list4 {l : List UInt8} (h : l.length = 4) : ∃ a b c d, l = [a, b, c, d] := by
  match l, h with
  | [a, b, c, d], _ => exact ⟨a, b, c, d, rfl⟩
theorem valStep_u (x : BitVec 32) (c : UInt8) (hx : x.toNat < 16777216) : (valStep x c).toNat = x.toNat * 256 + c.toNat := by
  have := valStep_nat x c.toNat hx c.toBitVec.isLt
  rwa [UInt8.ofNat_toNat] at this
theorem val_num {l : List UInt8} (h : l.length = 4) : (val l).toNat = num l := by
  obtain ⟨a, b, c, d, rfl⟩ := list4 h
  have ha : a.toNat < 256 := a.toBitVec.isLt
  have hb : b.toNat < 256 := b.toBitVec.isLt
  have hc : c.toNat < 256 := c.toBitVec.isLt
  have h1 := valStep_u 0#32 a (by decide)
  have h1' : (valStep 0#32 a).toNat = a.toNat := by rw [h1]; simp
  have h2 := valStep_u (valStep 0#32 a) b (by omega)
  have h3 := valStep_u (valStep (valStep 0#32 a) b) c (by omega)
  have h4 := valStep_u (valStep (valStep (valStep 0#32 a) b) c) d (by omega)
  show (valStep (valStep (valStep (valStep 0#32 a) b) c) d).toNat = (((0 * 256 + a.toNat) * 256 + b.toNat) * 256 + c.toNat) * 256 + d.toNat
  rw [h4, h3, h2, h1']; omega
theorem four8_big (r : BitVec 32) : four8 r = bigB r.toNat 4 := by
  simp [four8, bigB]
theorem four8_val {l : List UInt8} (h : l.length = 4) : four8 (val l) = l := by
  rw [four8_big, val_num h]
  have := bigB_num l
  rwa [h] at this
theorem head_take {s : List UInt8} (h4 : s.take 4 = magic) (hl : 16 + nN s ≤ s.length) : head (gN s) (bodyN s) = s.take (16 + nN s) := by
  have hb : (bodyN s).length = nN s := by unfold bodyN; simp; omega
  unfold head
  rw [hb]
  have e1 : bigB (gN s) 8 = (s.take 12).drop 4 := by
    have := bigB_num ((s.take 12).drop 4)
    rwa [show ((s.take 12).drop 4).length = 8 by simp; omega] at this
  have e2 : bigB (nN s) 4 = (s.take 16).drop 12 := by
    have := bigB_num ((s.take 16).drop 12)
    rwa [show ((s.take 16).drop 12).length = 4 by simp; omega] at this
  rw [e1, e2, ← h4]
  unfold bodyN
  have p1 : s.take (16 + nN s) = s.take 16 ++ (s.take (16 + nN s)).drop 16 := by
    conv => lhs; rw [← List.take_append_drop 16 (s.take (16 + nN s)), List.take_take, Nat.min_eq_left (by omega)]
  have p2 : s.take 16 = s.take 12 ++ (s.take 16).drop 12 := by
    conv => lhs; rw [← List.take_append_drop 12 (s.take 16), List.take_take, Nat.min_eq_left (by omega)]
  have p3 : s.take 12 = s.take 4 ++ (s.take 12).drop 4 := by
    conv => lhs; rw [← List.take_append_drop 4 (s.take 12), List.take_take, Nat.min_eq_left (by omega)]
  conv => rhs; rw [p1, p2, p3]
  simp only [List.append_assoc]
/-- The sum that stands is the sum that is asked for. -/
theorem sum_iff {s : List UInt8} (h4 : s.take 4 = magic) (hl : 20 + nN s ≤ s.length) : frame (gN s) (bodyN s) = s.take (20 + nN s) ↔ val ((s.take (20 + nN s)).drop (16 + nN s)) = crc (s.take (16 + nN s)) := by
  have hh := head_take h4 (by omega)
  have ht : ((s.take (20 + nN s)).drop (16 + nN s)).length = 4 := by simp; omega
  have p : s.take (20 + nN s) = s.take (16 + nN s) ++ (s.take (20 + nN s)).drop (16 + nN s) := by
    conv => lhs; rw [← List.take_append_drop (16 + nN s) (s.take (20 + nN s)), List.take_take, Nat.min_eq_left (by omega)]
  unfold frame
  rw [hh]
  constructor
  · intro h
    have h2 := List.append_cancel_left (h.trans p)
    rw [← h2, val_four]
  · intro h
    rw [← h, four8_val ht]
    exact p.symm
theorem take_cells (l : List UInt8) {a b : Nat} (_h : a ≤ b) : ((bc l).drop (mulE a 1)).take (mulE (b - a) 1) = bc ((l.take b).drop a) := by
  rw [mulE_eq, mulE_eq, Nat.mul_one, Nat.mul_one, bc_drop, bc_take, List.drop_take]
theorem u64_i64 {n : Nat} (h : n ≤ 1152921504606846976) : IntKind.i64.wrap (n : Int) = n := wrap_i64 (by omega) (by omega)
/-- A row that is told apart from what stands beside it, or empty. -/
def okG (x : Ext) (bs : List UInt8) : Prop := bs = [] ∨ x = .nn
theorem okX.g {x : Ext} {bs : List UInt8} (h : okX x bs) : okG x bs := by
  rcases h with h | h
  · exact .inl h.2
  · exact .inr h
theorem number_n {x : Ext} {bs : List UInt8} {n : Nat} (h : bs.length = n) (h8 : n ≤ 8) : EP (EE env) 17 [.sl x n (bc bs)] = some (u64 (num bs)) := by
  subst h; exact number_ok x bs h8
theorem clone_n {bs : List UInt8} {n : Nat} (h : bs.length = n) (hl : n ≤ 1000000) : EP (EE env) 20 [.sl .nn n (bc bs)] = some (.sl (cx bs) bs.length (bc bs)) := by
  subst h; exact clone_nn bs hl
theorem of1_n {y x : Ext} {bs : List UInt8} {n : Nat} (h : bs.length = n) (hl : n ≤ 1000000) : EP (EE env) 19 [.sl y 1 [.sl x n (bc bs)]] = some (u32 (crc bs)) := by
  subst h; exact of1 y x bs (by rw [maxLen_eq]; omega)
set_option maxHeartbeats 2000000 in
theorem get_ok (x : Ext) (s : List UInt8) (hx : okG x s) (hl : s.length ≤ 1000000) : EP (EE env) 8 [.sl x s.length (bc s)] = some (getV s) := by
  refine Has.eq (EP_has ?_)
  refine boolK_dec (fun h1 => ?_) (fun h1 => ?_)
  · rw [getV_err (by unfold getM; rw [if_pos (by omega)]) (by decide)]
    exact Has.intro (Has.intro rfl)
  have hxn : x = .nn := by
    rcases hx with h | h
    · rw [h] at h1; simp at h1
    · exact h
  subst hxn
  refine needK_has (by simp; omega) ?_
  refine eqK_has_eq (bc (s.take 4)) (take_cells s (Nat.zero_le 4)) ?_
  have hs4 : (s.take 4).length = 4 := by simp; omega
  refine needK_has (by rw [bc_length, hs4]; rfl) ?_
  refine bindK_has (strOf_bc (s.take 4)) ?_
  refine boolK_has_eq (c := decide (s.take 4 ≠ magic)) (str_bne (s.take 4) magic) ?_
  by_cases h2 : s.take 4 ≠ magic
  · rw [decide_eq_true h2, getV_err (by unfold getM; rw [if_neg (by omega), if_pos h2]) (by decide)]
    exact Has.intro (Has.intro rfl)
  rw [decide_eq_false h2]
  refine boolK_dec (fun h3 => ?_) (fun h3 => ?_)
  · rw [getV_err (by unfold getM; rw [if_neg (by omega), if_neg h2, if_pos (by omega)]) (by decide)]
    exact Has.intro (Has.intro rfl)
  refine needK_has (by simp; omega) ?_
  refine needK_has (by simp) ?_
  refine eqK_has_eq (bc ((s.take 12).drop 4)) (take_cells s (by decide)) ?_
  refine callPK_has (number_n (by simp; omega) (by decide)) ?_
  refine needK_has (by simp; omega) ?_
  refine needK_has (by simp) ?_
  refine eqK_has_eq (bc ((s.take 16).drop 12)) (take_cells s (by decide)) ?_
  refine callPK_has (number_n (by simp; omega) (by decide)) ?_
  have h2' : s.take 4 = magic := Classical.not_not.1 h2
  have hN : getM s = if gN s < 1 ∨ gN s > 1152921504606846976 then (0, [], 11) else if nN s > 65536 then (0, [], 15) else if s.length < 20 + nN s then (0, [], 10)
      else if frame (gN s) (bodyN s) ≠ s.take (20 + nN s) then (0, [], 14) else (gN s, bodyN s, 0) := by
    unfold getM; rw [if_neg (by omega), if_neg h2, if_neg (by omega)]
  have hG : num ((s.take 12).drop 4) = gN s := rfl
  have hNN : num ((s.take 16).drop 12) = nN s := rfl
  rw [hG, hNN]
  refine boolK_dec (fun h4 => ?_) (fun h4 => ?_)
  · rw [getV_err (by rw [hN, if_pos (by omega)]) (by decide)]
    exact Has.intro (Has.intro rfl)
  refine boolK_dec (fun h5 => ?_) (fun h5 => ?_)
  · rw [getV_err (by rw [hN, if_pos (by omega)]) (by decide)]
    exact Has.intro (Has.intro rfl)
  rw [if_neg (by omega)] at hN
  refine boolK_dec (fun h6 => ?_) (fun h6 => ?_)
  · rw [getV_err (by rw [hN, if_pos (by omega)]) (by decide)]
    exact Has.intro (Has.intro rfl)
  rw [if_neg (by omega)] at hN
  refine eqK_has_eq _ (u64_i64 (by omega)) ?_
  have hsz := size_ok (nN s : Int)
  rw [if_pos (by omega)] at hsz
  refine callPK_has hsz ?_
  refine boolK_dec (fun h7 => ?_) (fun h7 => ?_)
  · rw [getV_err (by rw [hN, if_pos (by omega)]) (by decide)]
    exact Has.intro (Has.intro rfl)
  rw [if_neg (by omega)] at hN
  have hlen : 20 + nN s ≤ s.length := by omega
  have hsum := sum_iff h2' hlen
  refine eqK_has_eq _ (u64_i64 (by omega)) ?_
  refine eqK_has_eq ((16 + nN s : Nat) : Int) (by rw [wrap_i64 (by omega) (by omega)]; omega) ?_
  refine eqK_has_eq ((20 + nN s : Nat) : Int) (by rw [wrap_i64 (by omega) (by omega)]; omega) ?_
  refine needK_has (by simp; omega) ?_
  refine needK_has (by simp; omega) ?_
  refine eqK_has_eq (bc ((s.take (20 + nN s)).drop (16 + nN s))) (take_cells s (by simp; omega)) ?_
  have hT : ((s.take (20 + nN s)).drop (16 + nN s)).length = 4 := by simp; omega
  refine needK_has (by simp; omega) ?_
  refine secK_has (v := bc ((s.take (20 + nN s)).drop (16 + nN s))) (by rw [List.drop_zero, List.take_of_length_le (by rw [bc_length, hT]; exact Nat.le_refl 4)]) (by rw [bc_length, hT]; exact Nat.le_refl 4) ?_
  refine callPK_has (val_ok _ hT) ?_
  refine needK_has (by simp; omega) ?_
  refine eqK_has_eq (bc (s.take (16 + nN s))) (take_cells s (Nat.zero_le _)) ?_
  refine callPK_has (of1_n (by simp; omega) (by simp; omega)) ?_
  refine boolK_bne (fun h8 => ?_) (fun h8 => ?_)
  · rw [getV_err (by rw [hN, if_pos (fun h => h8 (by rw [hsum.1 h]))]) (by decide)]
    exact Has.intro (Has.intro rfl)
  have h9 : frame (gN s) (bodyN s) = s.take (20 + nN s) := hsum.2 (BitVec.eq_of_toNat_eq (by omega))
  rw [if_neg (fun h => h h9)] at hN
  refine eqK_has_eq _ (u64_i64 (by omega)) ?_
  refine needK_has (by simp; omega) ?_
  refine needK_has (by simp; omega) ?_
  refine eqK_has_eq (bc (bodyN s)) (take_cells s (by simp; omega)) ?_
  refine callPK_has (clone_n (by unfold bodyN; simp; omega) (by simp; omega)) ?_
  rw [getV_ok hN]
  exact Has.intro (Has.intro rfl)
end Go.Proofs.Ytnkdddlkghkpjaa
