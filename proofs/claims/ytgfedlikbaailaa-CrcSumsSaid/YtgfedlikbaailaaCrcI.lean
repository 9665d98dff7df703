/-
  CrcSums, in the abstract machine.
-/
import Derived.Test.YtgfedlikbaailaaCrcH
set_option linter.all false
set_option linter.unusedVariables false
set_option linter.unusedSimpArgs false
set_option linter.unusedSectionVars false
namespace Go.Proofs.Ytgfedlikbaailaa
open Go Go.VM

theorem arg_rows_els : ∀ (n : Nat) (cs : List PV), Els (HasTy (.sl 1 (.int .u8))) 1 n cs → ∃ rows : List (Ext × List UInt8), rows.length = n ∧ cs = rows.map row ∧ ∀ p ∈ rows, p.2.length ≤ maxLen := by
  intro n
  induction n with
  | zero => intro cs h; exact ⟨[], rfl, h, fun p hp => by cases hp⟩
  | succ n ih =>
    intro cs ⟨a, b, h1, h2, h3, h4⟩
    obtain ⟨rows, g1, g2, g3⟩ := ih b h4
    obtain ⟨q, rfl⟩ : ∃ q, a = [q] := by
      match a, h2 with
      | [q], _ => exact ⟨q, rfl⟩
    obtain ⟨x, bs, e, hl, _⟩ := arg_bytes h3
    refine ⟨(x, bs) :: rows, by simp [g1], by rw [h1, g2, e]; rfl, fun p hp => ?_⟩
    rcases List.mem_cons.1 hp with e | e
    · rw [e]; exact hl
    · exact g3 p e
theorem arg_rows {p : PV} (h : HasTy (.sl 1 (.sl 1 (.int .u8))) [p]) : ∃ (x : Ext) (rows : List (Ext × List UInt8)), p = .sl x rows.length (rows.map row) ∧ rows.length ≤ maxLen ∧ ∀ p ∈ rows, p.2.length ≤ maxLen := by
  obtain ⟨x, len, cells, h1, h2, h3, h4⟩ := h
  obtain ⟨rows, g1, g2, g3⟩ := arg_rows_els _ _ h4
  injection h1 with h1
  exact ⟨x, rows, by rw [h1, g1, g2], by omega, g3⟩

theorem strOf_bc (bs : List UInt8) : strOfCells (bc bs) = some bs := by
  induction bs with
  | nil => rfl
  | cons b bs ih =>
    show (strOfCells (bc bs)).map _ = _
    rw [ih]
    simp
theorem strOf_bc' (bs : List UInt8) {cs : List PV} (h : cs = bc bs) : strOfCells cs = some bs := by rw [h, strOf_bc]

/-- The four bytes of a sum, as bytes. -/
def four8 (r : BitVec 32) : List UInt8 := [UInt8.ofNat (r.toNat / 16777216 % 256), UInt8.ofNat (r.toNat / 65536 % 256), UInt8.ofNat (r.toNat / 256 % 256), UInt8.ofNat (r.toNat % 256)]
theorem four_eq (r : BitVec 32) : four r = bc (four8 r) := by
  unfold four four8 bc
  simp only [List.map_cons, List.map_nil, UInt8.toNat_ofNat', Nat.mod_mod]
theorem u32_div (a b : Nat) (h : a < 4294967296) : IntKind.u32.wrap ((a : Int).tdiv (b : Int)) = ((a / b : Nat) : Int) := by
  show IntKind.u32.wrap ((a / b : Nat) : Int) = _
  exact wrap_u32 (Nat.lt_of_le_of_lt (Nat.div_le_self _ _) h)
theorem tmod_nats (a b : Nat) : (a : Int).tmod (b : Int) = ((a % b : Nat) : Int) := rfl

theorem refBytes_ok (r : BitVec 32) : EP (EE env) 12 [u32 r] = some (.str ⟨(four8 r).toArray⟩) := by
  have hr := r.isLt
  refine Has.eq (EP_has ?_)
  refine needK_has rfl ?_
  refine eqK_has_eq _ (u32_div r.toNat 16777216 hr) ?_
  refine eqK_has_eq _ (wrap_u8_mod _) ?_
  refine needK_has rfl ?_
  refine eqK_has_eq _ (u32_div r.toNat 65536 hr) ?_
  refine needK_has rfl ?_
  refine eqK_has_eq _ (tmod_nats _ 256) ?_
  refine eqK_has_eq ((r.toNat / 65536 % 256 : Nat) : Int) (by rw [wrap_u8_mod, Nat.mod_mod]) ?_
  refine needK_has rfl ?_
  refine eqK_has_eq _ (u32_div r.toNat 256 hr) ?_
  refine needK_has rfl ?_
  refine eqK_has_eq _ (tmod_nats _ 256) ?_
  refine eqK_has_eq ((r.toNat / 256 % 256 : Nat) : Int) (by rw [wrap_u8_mod, Nat.mod_mod]) ?_
  refine needK_has rfl ?_
  refine eqK_has_eq _ (tmod_nats _ 256) ?_
  refine eqK_has_eq ((r.toNat % 256 : Nat) : Int) (by rw [wrap_u8_mod, Nat.mod_mod]) ?_
  refine needK_has rfl ?_
  refine bindK_has (strOf_bc' (four8 r) (four_eq r)) ?_
  exact Has.intro (Has.intro rfl)

theorem valStep_nat (x : BitVec 32) (n : Nat) (hx : x.toNat < 16777216) (hn : n < 256) : (valStep x (UInt8.ofNat n)).toNat = x.toNat * 256 + n := by
  unfold valStep
  have e : (UInt8.ofNat n).toNat = n := by rw [UInt8.toNat_ofNat']; omega
  rw [e, BitVec.toNat_or, BitVec.toNat_shiftLeft, BitVec.toNat_ofNat, Nat.mod_eq_of_lt (by omega : n < 2 ^ 32)]
  have h1 : x.toNat <<< 8 = x.toNat * 256 := by rw [Nat.shiftLeft_eq]
  have h2 : x.toNat <<< 8 % 2 ^ 32 = x.toNat <<< 8 := by rw [h1]; omega
  rw [h2, ← Nat.shiftLeft_add_eq_or_of_lt (by omega : n < 2 ^ 8), h1]
theorem val_four (r : BitVec 32) : val (four8 r) = r := by
  have hr := r.isLt
  apply BitVec.eq_of_toNat_eq
  unfold val four8
  simp only [List.foldl_cons, List.foldl_nil]
  have h1 := valStep_nat 0#32 (r.toNat / 16777216 % 256) (by decide) (by omega)
  have z : (0#32 : BitVec 32).toNat = 0 := rfl
  rw [z] at h1
  have h2 := valStep_nat (valStep 0#32 (UInt8.ofNat (r.toNat / 16777216 % 256))) (r.toNat / 65536 % 256) (by omega) (by omega)
  have h3 := valStep_nat (valStep (valStep 0#32 (UInt8.ofNat (r.toNat / 16777216 % 256))) (UInt8.ofNat (r.toNat / 65536 % 256))) (r.toNat / 256 % 256) (by omega) (by omega)
  have h4 := valStep_nat _ (r.toNat % 256) (by rw [h3, h2, h1]; omega) (by omega)
  rw [h4, h3, h2, h1]
  omega
theorem val4_ok (r : BitVec 32) : EP (EE env) 13 [.agg (four r)] = some (u32 r) := by
  have := val_ok (four8 r) rfl
  rw [← four_eq, val_four] at this
  exact this

theorem addNil (v : AV) (H : Heap) : EE env (.fn 10) [.pv .nilp, v] H = some (.pv (.tup []), H) := EE_intro rfl
theorem valueNil (H : Heap) : EE env (.fn 14) [.pv .nilp] H = some (.pv (.int .u32 0), H) := EE_intro rfl
theorem cloneNil (H : Heap) : EE env (.fn 15) [.pv .nilp] H = some (.pv .nilp, H) := EE_intro rfl

/-- Rows, up to i of them, one behind the other. -/
def joined (rows : List (Ext × List UInt8)) (i : Nat) : List UInt8 := ((rows.take i).map (·.2)).flatten
theorem joined_succ {rows : List (Ext × List UInt8)} {i : Nat} {p : Ext × List UInt8} (h : rows[i]? = some p) : joined rows (i + 1) = joined rows i ++ p.2 := by
  unfold joined
  rw [List.take_add_one, h]; simp
theorem size_mk (l : List UInt8) : (⟨l.toArray⟩ : ByteArray).size = l.length := by simp [ByteArray.size]
theorem mk_append (a b : List UInt8) : (⟨a.toArray⟩ : ByteArray) ++ ⟨b.toArray⟩ = ⟨(a ++ b).toArray⟩ := by
  apply ByteArray.ext
  simp [ByteArray.data_append]

theorem sums_ok (ps : List PV) (h : HasArgs [.sl 1 (.sl 1 (.int .u8)), .int .u32] ps) : ∃ H', EE env (.fn 5) (ps.map .pv) [] = some (.pv (.bool true), H') := by
  obtain ⟨p1, _, rfl, h1, p2, _, rfl, ⟨u, h2, hu⟩, rfl⟩ := h
  obtain ⟨x, rows, rfl, hmax, hrows⟩ := arg_rows h1
  injection h2 with h2; subst h2
  obtain ⟨r, hr⟩ : ∃ r : BitVec 32, u = (r.toNat : Int) := by
    have hu' : 0 ≤ u ∧ u ≤ 4294967295 := by
      simp only [Lit.wf, IntKind.min, IntKind.max, IntKind.bits, IntKind.signed, Bool.and_eq_true, decide_eq_true_eq] at hu
      simp at hu
      omega
    exact ⟨BitVec.ofNat 32 u.toNat, by rw [BitVec.toNat_ofNat]; omega⟩
  subst hr
  clear h1 hu
  suffices H : Has (EE env (.fn 5) ([PV.sl x rows.length (rows.map row), u32 r].map .pv) []) (fun x => x.1 = .pv (.bool true)) by
    obtain ⟨⟨v, H'⟩, g1, g2⟩ := H
    exact ⟨H', by unfold u32 at g1; rw [g1]; simp only at g2; rw [g2]⟩
  refine EE_has ?_
  refine callPK_has first_ok ?_
  refine loopK_has ?_
  have hmax' := hmax
  rw [maxLen_eq] at hmax'
  refine iterE_loop (fun i => rows.length - i) (fun i => [(0, .pv (.sl x rows.length (rows.map row))), (1, .pv (u32 r)), (5, .pv (.str ⟨(joined rows i).toArray⟩)), (12, .pv (.sl x rows.length (rows.map row))), (13, .pv (.int .i64 rows.length)), (14, .pv (.int .i64 i))])
    (fun _ => []) (fun i => i ≤ rows.length ∧ (joined rows i).length ≤ 6000) (fun i ⟨hi, hj⟩ r1 => ?_) 0 ⟨Nat.zero_le _, by simp [joined]⟩ ⟨rfl, rfl, rfl, rfl, rfl, rfl, trivial⟩ rfl
  refine boolK_has (fun hc => ?_) (fun hc => ?_)
  · have hlt : i < rows.length := by have := of_decide_eq_true hc; omega
    obtain ⟨p, hp⟩ : ∃ p, rows[i]? = some p := ⟨rows[i], List.getElem?_eq_getElem hlt⟩
    have hpl := hrows p (List.mem_of_getElem? hp)
    refine needK_has (by simp; omega) ?_
    refine getK_has (show (rows.map row)[i]? = some (row p) by simp [hp]) ?_
    refine boolK_has (fun _ => Has.intro (Has.intro rfl)) (fun h1 => ?_)
    refine boolK_has (fun _ => Has.intro (Has.intro rfl)) (fun h2 => ?_)
    have h1' := of_decide_eq_false h1
    have h2' := of_decide_eq_false h2
    rw [size_mk] at h1'
    refine needK_has (by rw [bc_length]; exact Nat.beq_refl _) ?_
    refine bindK_has (strOf_bc p.2) ?_
    refine needK_has (by rw [size_mk, size_mk]; exact decide_eq_true (by omega)) ?_
    refine eqK_has_eq (⟨(joined rows (i + 1)).toArray⟩ : ByteArray) (by rw [mk_append, joined_succ hp]) ?_
    refine eqK_has_eq _ (i64_succ (by omega)) ?_
    refine Has.intro ⟨i + 1, ⟨hlt, ?_⟩, by omega, ⟨rfl, rfl, rfl, rfl, rfl, rfl, trivial⟩, rfl⟩
    rw [joined_succ hp, List.length_append]; omega
  · have hn : i = rows.length := by have := of_decide_eq_false hc; omega
    subst hn
    refine Has.intro ?_
    refine callPK_has (bytes_ok r) ?_
    refine hgetK_has _ rfl ?_
    refine needK_has rfl ?_
    refine eqK_has_eq (four r) rfl ?_
    refine callSK_has (addNil _ _) ?_
    refine callPK_has (of_ok x rows.length rows rfl hmax hrows) ?_
    have hj0 : joined rows rows.length = (rows.map (·.2)).flatten := by unfold joined; rw [List.take_length]
    rw [hj0] at hj ⊢
    have href := refOf_ok ⟨((rows.map (·.2)).flatten).toArray⟩ (by rw [size_mk]; omega)
    refine callPK_has href ?_
    refine boolK_has_true (by simp) ?_
    refine needK_has rfl ?_
    refine hgetK_has _ rfl ?_
    refine secK_has (v := four r) rfl (Nat.le_refl 4) ?_
    refine needK_has rfl ?_
    refine bindK_has (strOf_bc' (four8 r) (four_eq r)) ?_
    refine callPK_has (refBytes_ok r) ?_
    refine boolK_has_true (by simp) ?_
    refine hgetK_has _ rfl ?_
    refine secK_has (v := four r) rfl (Nat.le_refl 4) ?_
    refine callPK_has (val4_ok r) ?_
    refine boolK_has_true (by simp) ?_
    refine callSK_has (valueNil _) ?_
    refine boolK_has_true (by decide) ?_
    refine callSK_has (cloneNil _) ?_
    exact Has.intro rfl
end Go.Proofs.Ytgfedlikbaailaa
