/-
  CrcSums, in the abstract machine.
-/
import Derived.Test.YtnkdddlkghkpjaaPCrcH
set_option linter.all false
set_option linter.unusedVariables false
set_option linter.unusedSimpArgs false
set_option linter.unusedSectionVars false
namespace Go.Proofs.Ytnkdddlkghkpjaa
open Go Go.VM

theorem arg_rows_els : ∀ (n : Nat) (cs : List PV), Els (HasTy (.sl 1 (.int .u8))) 1 n cs → ∃ rows : List (Ext × List UInt8), rows.length = n ∧ cs = rows.map row ∧ ∀ p ∈ rows, p.2.length ≤ maxLen := by
  intro n
  induction n with
  | zero => intro cs h; exact ⟨[], rfl, h, fun p hp => by cases hp⟩
  | succ n ih =>
    intro cs ⟨a, b, h1, h2, h3, h4⟩
    obtain ⟨rows, g1, g2, g3⟩ := ih b h4
    obtain ⟨q, rfl⟩ : ∃ q, a = [q] := by
      match a, h2 with
      | [q], _ => exact ⟨q, rfl⟩
    obtain ⟨x, bs, e, hl, _⟩ := arg_bytes h3
    refine ⟨(x, bs) :: rows, by simp [g1], by rw [h1, g2, e]; rfl, fun p hp => ?_⟩
    rcases List.mem_cons.1 hp with e | e
    · rw [e]; exact hl
    · exact g3 p e
theorem arg_rows {p : PV} (h : HasTy (.sl 1 (.sl 1 (.int .u8))) [p]) : ∃ (x : Ext) (rows : List (Ext × List UInt8)), p = .sl x rows.length (rows.map row) ∧ rows.length ≤ maxLen ∧ ∀ p ∈ rows, p.2.length ≤ maxLen := by
  obtain ⟨x, len, cells, h1, h2, h3, h4⟩ := h
  obtain ⟨rows, g1, g2, g3⟩ := arg_rows_els _ _ h4
  injection h1 with h1
  exact ⟨x, rows, by rw [h1, g1, g2], by omega, g3⟩

theorem strOf_bc (bs : List UInt8) : strOfCells (bc bs) = some bs := by
  induction bs with
  | nil => rfl
  | cons b bs ih =>
    show (strOfCells (bc bs)).map _ = _
    rw [ih]
    simp
theorem strOf_bc' (bs : List UInt8) {cs : List PV} (h : cs = bc bs) : strOfCells cs = some bs := by rw [h, strOf_bc]

/-- The four bytes of a sum, as bytes. -/
def four8 (r : BitVec 32) : List UInt8 := [UInt8.ofNat (r.toNat / 16777216 % 256), UInt8.ofNat (r.toNat / 65536 % 256), UInt8.ofNat (r.toNat / 256 % 256), UInt8.ofNat (r.toNat % 256)]
theorem four_eq (r : BitVec 32) : four r = bc (four8 r) := by
  unfold four four8 bc
  simp only [List.map_cons, List.map_nil, UInt8.toNat_ofNat', Nat.mod_mod]
theorem u32_div (a b : Nat) (h : a < 4294967296) : IntKind.u32.wrap ((a : Int).tdiv (b : Int)) = ((a / b : Nat) : Int) := by
  show IntKind.u32.wrap ((a / b : Nat) : Int) = _
  exact wrap_u32 (Nat.lt_of_le_of_lt (Nat.div_le_self _ _) h)
theorem tmod_nats (a b : Nat) : (a : Int).tmod (b : Int) = ((a % b : Nat) : Int) := rfl

theorem refBytes_ok (r : BitVec 32) : EP (EE env) 23 [u32 r] = some (.str ⟨(four8 r).toArray⟩) := by
  have hr := r.isLt
  refine Has.eq (EP_has ?_)
  refine needK_has rfl ?_
  refine eqK_has_eq _ (u32_div r.toNat 16777216 hr) ?_
  refine eqK_has_eq _ (wrap_u8_mod _) ?_
  refine needK_has rfl ?_
  refine eqK_has_eq _ (u32_div r.toNat 65536 hr) ?_
  refine needK_has rfl ?_
  refine eqK_has_eq _ (tmod_nats _ 256) ?_
  refine eqK_has_eq ((r.toNat / 65536 % 256 : Nat) : Int) (by rw [wrap_u8_mod, Nat.mod_mod]) ?_
  refine needK_has rfl ?_
  refine eqK_has_eq _ (u32_div r.toNat 256 hr) ?_
  refine needK_has rfl ?_
  refine eqK_has_eq _ (tmod_nats _ 256) ?_
  refine eqK_has_eq ((r.toNat / 256 % 256 : Nat) : Int) (by rw [wrap_u8_mod, Nat.mod_mod]) ?_
  refine needK_has rfl ?_
  refine eqK_has_eq _ (tmod_nats _ 256) ?_
  refine eqK_has_eq ((r.toNat % 256 : Nat) : Int) (by rw [wrap_u8_mod, Nat.mod_mod]) ?_
  refine needK_has rfl ?_
  refine bindK_has (strOf_bc' (four8 r) (four_eq r)) ?_
  exact Has.intro (Has.intro rfl)

theorem valStep_nat (x : BitVec 32) (n : Nat) (hx : x.toNat < 16777216) (hn : n < 256) : (valStep x (UInt8.ofNat n)).toNat = x.toNat * 256 + n := by
  unfold valStep
  have e : (UInt8.ofNat n).toNat = n := by rw [UInt8.toNat_ofNat']; omega
  rw [e, BitVec.toNat_or, BitVec.toNat_shiftLeft, BitVec.toNat_ofNat, Nat.mod_eq_of_lt (by omega : n < 2 ^ 32)]
  have h1 : x.toNat <<< 8 = x.toNat * 256 := by rw [Nat.shiftLeft_eq]
  have h2 : x.toNat <<< 8 % 2 ^ 32 = x.toNat <<< 8 := by rw [h1]; omega
  rw [h2, ← Nat.shiftLeft_add_eq_or_of_lt (by omega : n < 2 ^ 8), h1]
theorem val_four (r : BitVec 32) : val (four8 r) = r := by
  have hr := r.isLt
  apply BitVec.eq_of_toNat_eq
  unfold val four8
  simp only [List.foldl_cons, List.foldl_nil]
  have h1 := valStep_nat 0#32 (r.toNat / 16777216 % 256) (by decide) (by omega)
  have z : (0#32 : BitVec 32).toNat = 0 := rfl
  rw [z] at h1
  have h2 := valStep_nat (valStep 0#32 (UInt8.ofNat (r.toNat / 16777216 % 256))) (r.toNat / 65536 % 256) (by omega) (by omega)
  have h3 := valStep_nat (valStep (valStep 0#32 (UInt8.ofNat (r.toNat / 16777216 % 256))) (UInt8.ofNat (r.toNat / 65536 % 256))) (r.toNat / 256 % 256) (by omega) (by omega)
  have h4 := valStep_nat _ (r.toNat % 256) (by rw [h3, h2, h1]; omega) (by omega)
  rw [h4, h3, h2, h1]
  omega
theorem val4_ok (r : BitVec 32) : EP (EE env) 18 [.agg (four r)] = some (u32 r) := by
  have := val_ok (four8 r) rfl
  rw [← four_eq, val_four] at this
  exact this

theorem addNil (v : AV) (H : Heap) : EE env (.fn 30) [.pv .nilp, v] H = some (.pv (.tup []), H) := EE_intro rfl
theorem valueNil (H : Heap) : EE env (.fn 31) [.pv .nilp] H = some (.pv (.int .u32 0), H) := EE_intro rfl
/-- Rows, up to i of them, one behind the other. -/
def joined (rows : List (Ext × List UInt8)) (i : Nat) : List UInt8 := ((rows.take i).map (·.2)).flatten
theorem joined_succ {rows : List (Ext × List UInt8)} {i : Nat} {p : Ext × List UInt8} (h : rows[i]? = some p) : joined rows (i + 1) = joined rows i ++ p.2 := by
  unfold joined
  rw [List.take_add_one, h]; simp
theorem size_mk (l : List UInt8) : (⟨l.toArray⟩ : ByteArray).size = l.length := by simp [ByteArray.size]
theorem mk_append (a b : List UInt8) : (⟨a.toArray⟩ : ByteArray) ++ ⟨b.toArray⟩ = ⟨(a ++ b).toArray⟩ := by
  apply ByteArray.ext
  simp [ByteArray.data_append]

end Go.Proofs.Ytnkdddlkghkpjaa
