/-
  Clones, and torn slots.
-/
import Derived.Test.YtnkdddlkghkpjaaSlC
set_option linter.all false
set_option linter.unusedVariables false
set_option linter.unusedSimpArgs false
set_option linter.unusedSectionVars false
namespace Go.Proofs.Ytnkdddlkghkpjaa
open Go Go.VM

/-- A row that may be nil only if it is empty. -/
def okX (x : Ext) (bs : List UInt8) : Prop := (x = .nil ∧ bs = []) ∨ x = .nn
def cx (bs : List UInt8) : Ext := match bs with
  | [] => .nnx
  | _ => .nn
def tx (x : Ext) (bs : List UInt8) : Ext := match x with
  | .nil => .nil
  | _ => cx bs
theorem clone_nn (bs : List UInt8) (hl : bs.length ≤ 1000000) : EP (EE env) 20 [.sl .nn bs.length (bc bs)] = some (.sl (cx bs) bs.length (bc bs)) := by
  refine Has.eq (EP_has ?_)
  cases bs with
  | nil =>
    refine app_none ?_
    exact Has.intro (Has.intro rfl)
  | cons b bs =>
    refine app_plain rfl rfl (by rw [bc_length, Nat.mul_one]) (by simp) (by show (0 + (b :: bs).length) * 1 ≤ 140737488355328; omega) ?_
    refine Has.intro (Has.intro ?_)
    show PV.sl .nn (0 + (b :: bs).length) ([] ++ bc (b :: bs)) = _
    rw [Nat.zero_add]; rfl
theorem clone_nil : EP (EE env) 20 [.sl .nil 0 []] = some (.sl .nil 0 []) := by
  refine Has.eq (EP_has ?_)
  exact Has.intro (Has.intro rfl)
theorem clone_ee (bs : List UInt8) (h0 : bs ≠ []) (hl : bs.length ≤ 1000000) : EE env (.fn 20) [.pv (.sl .nn bs.length (bc bs))] [] = some (.tsl 0 bs.length (bc bs), [.tok bs.length 1]) := by
  refine Has.eq (EE_has ?_)
  cases bs with
  | nil => exact absurd rfl h0
  | cons b bs =>
    refine app_plain rfl rfl (by rw [bc_length, Nat.mul_one]) (by simp) (by show (0 + (b :: bs).length) * 1 ≤ 140737488355328; omega) ?_
    refine Has.intro ?_
    show (AV.tsl 0 (0 + (b :: bs).length) ([] ++ bc (b :: bs)), [HObj.tok (0 + (b :: bs).length) 1]) = _
    rw [Nat.zero_add]; rfl
theorem clone_e0 : EE env (.fn 20) [.pv (.sl .nn 0 [])] [] = some (.pv (.sl .nnx 0 []), []) := by
  refine Has.eq (EE_has ?_)
  refine app_none ?_
  exact Has.intro rfl
theorem clone_en : EE env (.fn 20) [.pv (.sl .nil 0 [])] [] = some (.pv (.sl .nil 0 []), []) := by
  refine Has.eq (EE_has ?_)
  exact Has.intro rfl
/-- How much is torn off. -/
def cut (n : Int) (l : Nat) : Nat := min n.toNat l
def tornB (was fr : List UInt8) (n : Int) : List UInt8 := fr.take (min (cut n fr.length) was.length) ++ was.drop (min (cut n fr.length) was.length)
theorem tornB_len (was fr : List UInt8) (n : Int) : (tornB was fr n).length = was.length := by
  unfold tornB cut; simp; omega
theorem tornB_nil (fr : List UInt8) (n : Int) : tornB [] fr n = [] := by unfold tornB; simp
theorem mm_eq (n : Int) (l : Nat) : (if (if (l : Int) < n then (l : Int) else n) > 0 then (if (l : Int) < n then (l : Int) else n) else 0) = ((cut n l : Nat) : Int) := by
  unfold cut
  split <;> split <;> omega
theorem bc_flat (bs : List UInt8) : (bc bs).all PV.flat = true := by
  rw [List.all_eq_true]
  intro v hv
  obtain ⟨b, _, rfl⟩ := List.mem_map.1 hv
  rfl
theorem torn_cells (was fr : List UInt8) (n : Int) : (bc was).take 0 ++ (bc (fr.take (cut n fr.length))).take (mulE (min (cut n fr.length) was.length) 1) ++ (bc was).drop (0 + mulE (min (cut n fr.length) was.length) 1) = bc (tornB was fr n) := by
  unfold tornB
  rw [mulE_eq, Nat.mul_one, List.take_zero, List.nil_append, Nat.zero_add, bc_take, bc_drop, bc_append, List.take_take, Nat.min_eq_left (Nat.min_le_left _ _)]
set_option maxHeartbeats 1000000 in
theorem torn_ok (x y : Ext) (was fr : List UInt8) (n : Int) (hx : okX x was) (hw : was.length ≤ 1000000) (hf : fr.length ≤ 1000000) :
    EP (EE env) 15 [.sl x was.length (bc was), .sl y fr.length (bc fr), .int .i64 n] = some (.sl (tx x was) was.length (bc (tornB was fr n))) := by
  have hcl : cut n fr.length ≤ fr.length := Nat.min_le_right _ _
  have h17 : ((bc fr).drop (mulE 0 1)).take (mulE (((cut n fr.length : Nat) : Int).toNat - 0) 1) = bc (fr.take (cut n fr.length)) := by
    rw [mulE_eq, mulE_eq, Nat.zero_mul, List.drop_zero, Int.toNat_natCast, Nat.sub_zero, Nat.mul_one, bc_take]
  refine Has.eq (EP_has ?_)
  by_cases h0 : was = []
  · subst h0
    have : (x = .nil ∨ x = .nn) := by rcases hx with h | h; exact .inl h.1; exact .inr h
    rw [tornB_nil]
    rcases this with rfl | rfl
    · refine callSK_has clone_en ?_
      refine eqK_has ?_
      refine eqK_has_eq _ (mm_eq n fr.length) ?_
      refine needK_has (by simp; omega) ?_
      refine eqK_has_eq _ h17 ?_
      refine needK_has (by simp [bc_length, mulE_eq]; omega) ?_
      exact Has.intro (Has.intro rfl)
    · refine callSK_has clone_e0 ?_
      refine eqK_has ?_
      refine eqK_has_eq _ (mm_eq n fr.length) ?_
      refine needK_has (by simp; omega) ?_
      refine eqK_has_eq _ h17 ?_
      refine needK_has (by simp [bc_length, mulE_eq]; omega) ?_
      exact Has.intro (Has.intro rfl)
  · have hxn : x = .nn := by rcases hx with h | h; exact absurd h.2 h0; exact h
    subst hxn
    refine callSK_has (clone_ee was h0 hw) ?_
    refine needK_has (by simp) ?_
    refine needK_has (bc_flat was) ?_
    refine eqK_has ?_
    refine eqK_has_eq _ (mm_eq n fr.length) ?_
    refine needK_has (by simp; omega) ?_
    refine eqK_has_eq _ h17 ?_
    refine hgetK_has _ rfl ?_
    refine needK_has (by simp [bc_length, mulE_eq]; omega) ?_
    refine eqK_has_eq (min (cut n fr.length) was.length) (by simp) ?_
    refine eqK_has_eq (bc (tornB was fr n)) (torn_cells was fr n) ?_
    refine Has.intro (Has.of_eq (x := PV.sl .nn was.length (bc (tornB was fr n))) ?_ ?_)
    · have hl : (bc (tornB was fr n)).length = was.length := by rw [bc_length, tornB_len]
      show (bif Nat.ble (0 + was.length * 1) (bc (tornB was fr n)).length then some (PV.sl .nn was.length (((bc (tornB was fr n)).drop 0).take (was.length * 1))) else none) = _
      rw [hl, Nat.zero_add, Nat.mul_one, Nat.ble_self_eq_true, List.drop_zero, List.take_of_length_le (by omega)]; rfl
    · cases was with
      | nil => exact absurd rfl h0
      | cons b bs => rfl
set_option maxHeartbeats 1000000 in
theorem rtorn_ok (was fr : List UInt8) (n : Int) (hw : was.length ≤ 100000) (hf : fr.length ≤ 100000) : EP (EE env) 13 [sv was, sv fr, .int .i64 n] = some (sv (tornB was fr n)) := by
  have hsw := sv_size was
  have hsf := sv_size fr
  refine Has.eq (EP_has (fn_has rfl ?_))
  refine seq_on [(0, .pv (sv was)), (1, .pv (sv fr)), (2, .pv (.int .i64 n))] [] (by (refine Has.intro ⟨rfl, ?_, rfl⟩; (repeat (first | exact trivial | refine ⟨rfl, ?_⟩)))) (fun r => ?_)
  obtain ⟨n1, h1⟩ : ∃ n1 : Int, n1 = if n > fr.length then (fr.length : Int) else n := ⟨_, rfl⟩
  refine seq_on [(0, .pv (sv was)), (1, .pv (sv fr)), (2, .pv (.int .i64 n1))] [] ?_ (fun r => ?_)
  · refine boolK_dec (fun h => ?_) (fun h => ?_)
    · rw [hsf] at h
      rw [h1, if_pos h, ← hsf]
      (refine Has.intro ⟨rfl, ?_, rfl⟩; (repeat (first | exact trivial | refine ⟨rfl, ?_⟩)))
    · rw [hsf] at h
      rw [h1, if_neg h]
      (refine Has.intro ⟨rfl, ?_, rfl⟩; (repeat (first | exact trivial | refine ⟨rfl, ?_⟩)))
  obtain ⟨n2, h2⟩ : ∃ n2 : Int, n2 = if n1 > was.length then (was.length : Int) else n1 := ⟨_, rfl⟩
  refine seq_on [(0, .pv (sv was)), (1, .pv (sv fr)), (2, .pv (.int .i64 n2))] [] ?_ (fun r => ?_)
  · refine boolK_dec (fun h => ?_) (fun h => ?_)
    · rw [hsw] at h
      rw [h2, if_pos h, ← hsw]
      (refine Has.intro ⟨rfl, ?_, rfl⟩; (repeat (first | exact trivial | refine ⟨rfl, ?_⟩)))
    · rw [hsw] at h
      rw [h2, if_neg h]
      (refine Has.intro ⟨rfl, ?_, rfl⟩; (repeat (first | exact trivial | refine ⟨rfl, ?_⟩)))
  obtain ⟨k, hk⟩ : ∃ k : Nat, k = min (cut n fr.length) was.length := ⟨_, rfl⟩
  refine seq_on [(0, .pv (sv was)), (1, .pv (sv fr)), (2, .pv (.int .i64 k))] [] ?_ (fun r => ?_)
  · have hk2 : (k : Int) = if n2 < 0 then 0 else n2 := by
      rw [hk, h2, h1]; unfold cut
      split <;> split <;> split <;> omega
    refine boolK_dec (fun h => ?_) (fun h => ?_)
    · rw [hk2, if_pos h]
      (refine Has.intro ⟨rfl, ?_, rfl⟩; (repeat (first | exact trivial | refine ⟨rfl, ?_⟩)))
    · rw [hk2, if_neg h]
      (refine Has.intro ⟨rfl, ?_, rfl⟩; (repeat (first | exact trivial | refine ⟨rfl, ?_⟩)))
  have hk1 : k ≤ fr.length := by rw [hk]; unfold cut; omega
  have hk3 : k ≤ was.length := by rw [hk]; exact Nat.min_le_right _ _
  refine needK_has (by rw [hsf]; simp; omega) ?_
  refine eqK_has_eq (⟨(fr.take k).toArray⟩ : ByteArray) (by rw [sv_extract]; simp) ?_
  refine needK_has (by rw [hsw]; simp; omega) ?_
  refine eqK_has_eq (⟨(was.drop k).toArray⟩ : ByteArray) (by rw [sv_extract, hsw]; simp) ?_
  refine needK_has (add_room (fr.take k) (was.drop k) (by simp; omega)) ?_
  refine eqK_has_eq _ (mk_append (fr.take k) (was.drop k)) ?_
  refine Has.intro (Has.intro ?_)
  unfold tornB
  rw [← hk]; rfl
end Go.Proofs.Ytnkdddlkghkpjaa
