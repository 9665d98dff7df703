/-
  The document's numbers with a sign; sums of lists.
-/
import Derived.Test.YtilfmfnngkangaaChG
set_option linter.all false
set_option linter.unusedVariables false
set_option linter.unusedSimpArgs false
set_option linter.unusedSectionVars false
namespace Go.Proofs.Ytilfmfnngkangaa
open Go Go.VM

theorem aggEq_nats : ∀ (xs ys : List Nat), xs.length = ys.length → aggEq (List.replicate xs.length .i) (xs.map fun (n : Nat) => PV.int .u64 (n : Int)) (ys.map fun (n : Nat) => PV.int .u64 (n : Int)) = some (decide (xs = ys)) := by
  intro xs
  induction xs with
  | nil => intro ys h; cases ys with
    | nil => rfl
    | cons _ _ => cases h
  | cons x xs ih => intro ys h; cases ys with
    | nil => cases h
    | cons y ys =>
      show (match scalarEq .i (.int .u64 (x : Int)) (.int .u64 (y : Int)), aggEq (List.replicate xs.length .i) _ _ with | some x, some y => some (x && y) | _, _ => none) = _
      have h1 : scalarEq .i (.int .u64 (x : Int)) (.int .u64 (y : Int)) = some ((x : Int) == (y : Int)) := rfl
      rw [h1, ih ys (by simpa using h)]
      simp only
      congr 1
      rw [Bool.eq_iff_iff]
      simp
      omega
def digs (a : Nat) : List Nat := (List.range 20).map (dgt a)
theorem dc_digs (a : Nat) : dc a = (digs a).map fun (n : Nat) => PV.int .u64 (n : Int) := by unfold dc digs tab; rw [List.map_map]; rfl
theorem digs_inj {a b : Nat} (ha : a < 65536 ^ 20) (hb : b < 65536 ^ 20) : digs a = digs b ↔ a = b := by
  refine ⟨fun h => ?_, fun h => by rw [h]⟩
  have hd : ∀ j, j < 20 → dgt a j = dgt b j := fun j hj => by
    have h1 : (digs a)[j]? = (digs b)[j]? := by rw [h]
    unfold digs at h1
    rw [List.getElem?_map, List.getElem?_map, List.getElem?_range hj] at h1
    simpa using h1
  have key : ∀ m, m ≤ 20 → sh a (20 - m) = sh b (20 - m) := by
    intro m
    induction m with
    | zero => intro _; rw [sh_of_lt ha, sh_of_lt hb]
    | succ m ih =>
      intro hm
      have h0 := ih (by omega)
      have h1 := hd (20 - (m + 1)) (by omega)
      have h2 := sh_succ a (20 - (m + 1))
      have h3 := sh_succ b (20 - (m + 1))
      rw [show 20 - (m + 1) + 1 = 20 - m by omega] at h2 h3
      rw [dc_mod, dc_mod] at h1
      omega
  have := key 20 (Nat.le_refl _)
  rwa [Nat.sub_self, sh_zero, sh_zero] at this
theorem dc_eq {a b : Nat} (ha : a < 65536 ^ 20) (hb : b < 65536 ^ 20) :
    aggEq [.i, .i, .i, .i, .i, .i, .i, .i, .i, .i, .i, .i, .i, .i, .i, .i, .i, .i, .i, .i] (dc a) (dc b) = some (decide (a = b)) := by
  rw [dc_digs, dc_digs]
  have h := aggEq_nats (digs a) (digs b) (by simp [digs])
  have e : List.replicate (digs a).length SK.i = [.i, .i, .i, .i, .i, .i, .i, .i, .i, .i, .i, .i, .i, .i, .i, .i, .i, .i, .i, .i] := by
    have : (digs a).length = 20 := by simp [digs]
    rw [this]; rfl
  rw [e] at h
  rw [h]
  congr 1
  exact decide_eq_decide.2 (digs_inj ha hb)

/-- A number with a sign. -/
def sg (m : Bool) (a : Nat) : List PV := .bool m :: dc a
def sval (m : Bool) (a : Nat) : Int := if m then -(a : Int) else (a : Int)
theorem sg_len (m : Bool) (a : Nat) : (sg m a).length = 21 := by simp [sg, dc_len]
theorem sg_tail (m : Bool) (a : Nat) : ((sg m a).drop 1).take 20 = dc a := by
  show (dc a).take 20 = dc a
  exact List.take_of_length_le (by rw [dc_len]; exact Nat.le_refl _)
theorem sg_fits (m m' : Bool) (a b : Nat) : (Nat.beq (sg m b).length 21 && Nat.ble (0 + 21) (sg m' a).length) = true := by rw [sg_len, sg_len]; rfl
theorem sg_store (m m' : Bool) (a b : Nat) : (sg m' a).take 0 ++ sg m b ++ (sg m' a).drop (0 + 21) = sg m b := by
  rw [List.take_zero, List.nil_append, List.drop_of_length_le (by rw [sg_len]; exact Nat.le_refl _), List.append_nil]
theorem sg_all (m : Bool) (a : Nat) : ((sg m a).drop 0).take 21 = sg m a ∧ 0 + 21 ≤ (sg m a).length := by
  rw [List.drop_zero, sg_len]
  exact ⟨List.take_of_length_le (by rw [sg_len]; exact Nat.le_refl _), Nat.le_refl _⟩
def zsg : List PV := [.bool false, .int .u64 0, .int .u64 0, .int .u64 0, .int .u64 0, .int .u64 0, .int .u64 0, .int .u64 0, .int .u64 0, .int .u64 0, .int .u64 0, .int .u64 0, .int .u64 0, .int .u64 0, .int .u64 0, .int .u64 0, .int .u64 0, .int .u64 0, .int .u64 0, .int .u64 0, .int .u64 0]
theorem zsg_eq : zsg = sg false 0 := rfl
/-- A sign and digits, put together. -/
theorem sg_build (m : Bool) (a : Nat) : fill zsg [(0, 1, .bool m), (1, 20, .agg (dc a))] = some (sg m a) := by
  show (bif Nat.beq (dc a).length 20 then fill ((zsg.set 0 (.bool m)).take 1 ++ dc a ++ (zsg.set 0 (.bool m)).drop (1 + 20)) [] else none) = _
  rw [dc_len]
  show some ((zsg.set 0 (.bool m)).take 1 ++ dc a ++ []) = _
  rw [List.append_nil]; rfl

theorem sof_ok {n : Int} (h : fit n = true) : EP (EE env) 9 [.int .i64 n] = some (.agg (sg (decide (n < 0)) n.natAbs)) := by
  have hf := fit_true h
  refine Has.eq (EP_has ?_)
  refine boolK_has (fun h => ?_) (fun h => ?_)
  · have h' := of_decide_eq_true h
    refine eqK_has_eq (n + 1) (wrap_i64 (by omega) (by omega)) ?_
    refine eqK_has_eq (-(n + 1)) ((wrap_i64 (by omega) (by omega)).trans (by omega)) ?_
    refine eqK_has_eq ((n.natAbs - 1 : Nat) : Int) (by rw [wrap_u64_emod]; omega) ?_
    refine callPK_has (of_ok (n.natAbs - 1) (by omega)) ?_
    refine callPK_has ((plus_ok (n.natAbs - 1) 1).trans (by rw [Nat.sub_add_cancel (by omega)])) ?_
    refine hgetK_has _ rfl ?_
    refine needK_has rfl ?_
    refine eqK_has_eq (sg true n.natAbs) rfl ?_
    refine hgetK_has _ rfl ?_
    refine secK_has (v := sg true n.natAbs) (sg_all _ _).1 (sg_all _ _).2 ?_
    refine Has.intro (Has.intro ?_)
    rw [h]
  · have h' := of_decide_eq_false h
    refine eqK_has_eq (n.natAbs : Int) (by rw [wrap_u64_emod]; omega) ?_
    refine callPK_has (of_ok n.natAbs (by omega)) ?_
    refine hgetK_has _ rfl ?_
    refine needK_has rfl ?_
    refine eqK_has_eq (sg false n.natAbs) rfl ?_
    refine hgetK_has _ rfl ?_
    refine secK_has (v := sg false n.natAbs) (sg_all _ _).1 (sg_all _ _).2 ?_
    refine Has.intro (Has.intro ?_)
    rw [h]

/-- The sum of two numbers with signs: its sign (of 0: whichever), its size. -/
def splus (m : Bool) (a : Nat) (k : Bool) (b : Nat) : Bool × Nat := if m = k then (m, a + b) else if a < b then (k, b - a) else (m, a - b)
theorem splus_val (m k : Bool) (a b : Nat) : sval (splus m a k b).1 (splus m a k b).2 = sval m a + sval k b := by
  unfold splus
  split
  · rename_i h; subst h; unfold sval; cases m <;> simp <;> omega
  · rename_i h
    split
    · cases m <;> cases k <;> simp [sval] at * <;> omega
    · cases m <;> cases k <;> simp [sval] at * <;> omega

theorem splus_ok (m k : Bool) (a b : Nat) (ha : a < 65536 ^ 20) (hb : b < 65536 ^ 20) : EP (EE env) 10 [.agg (sg m a), .agg (sg k b)] = some (.agg (sg (splus m a k b).1 (splus m a k b).2)) := by
  refine Has.eq (EP_has ?_)
  refine hgetK_has _ rfl ?_
  refine getK_has (v := .bool m) rfl ?_
  refine hgetK_has _ rfl ?_
  refine getK_has (v := .bool k) rfl ?_
  refine boolK_has (fun h => ?_) (fun h => ?_)
  · have h' : m = k := by simpa using h
    refine hgetK_has _ rfl ?_
    refine getK_has (v := .bool m) rfl ?_
    refine hgetK_has _ rfl ?_
    refine secK_has (v := dc a) (sg_tail m a) (by rw [sg_len]; exact Nat.le_refl _) ?_
    refine hgetK_has _ rfl ?_
    refine secK_has (v := dc b) (sg_tail k b) (by rw [sg_len]; exact Nat.le_refl _) ?_
    refine callPK_has (plus_ok a b) ?_
    refine hgetK_has _ rfl ?_
    refine needK_has rfl ?_
    refine eqK_has_eq (sg m (a + b)) rfl ?_
    refine hgetK_has _ rfl ?_
    refine secK_has (v := sg m (a + b)) (sg_all _ _).1 (sg_all _ _).2 ?_
    refine Has.intro (Has.intro ?_)
    unfold splus; rw [if_pos h']
  · have h' : m ≠ k := by simpa using h
    refine hgetK_has _ rfl ?_
    refine secK_has (v := dc a) (sg_tail m a) (by rw [sg_len]; exact Nat.le_refl _) ?_
    refine hgetK_has _ rfl ?_
    refine secK_has (v := dc b) (sg_tail k b) (by rw [sg_len]; exact Nat.le_refl _) ?_
    refine callPK_has (less_ok a b ha hb) ?_
    cases hl : decide (a < b) with
    | true =>
      have hl' := of_decide_eq_true hl
      refine hgetK_has _ rfl ?_
      refine getK_has (v := .bool k) rfl ?_
      refine hgetK_has _ rfl ?_
      refine secK_has (v := dc b) (sg_tail k b) (by rw [sg_len]; exact Nat.le_refl _) ?_
      refine hgetK_has _ rfl ?_
      refine secK_has (v := dc a) (sg_tail m a) (by rw [sg_len]; exact Nat.le_refl _) ?_
      refine callPK_has (minus_ok b a (by omega)) ?_
      refine hgetK_has _ rfl ?_
      refine needK_has rfl ?_
      refine eqK_has_eq (sg k (b - a)) rfl ?_
      refine hgetK_has _ rfl ?_
      refine secK_has (v := sg k (b - a)) (sg_all _ _).1 (sg_all _ _).2 ?_
      refine Has.intro (Has.intro ?_)
      unfold splus; rw [if_neg h', if_pos hl']
    | false =>
      have hl' := of_decide_eq_false hl
      refine hgetK_has _ rfl ?_
      refine getK_has (v := .bool m) rfl ?_
      refine hgetK_has _ rfl ?_
      refine secK_has (v := dc a) (sg_tail m a) (by rw [sg_len]; exact Nat.le_refl _) ?_
      refine hgetK_has _ rfl ?_
      refine secK_has (v := dc b) (sg_tail k b) (by rw [sg_len]; exact Nat.le_refl _) ?_
      refine callPK_has (minus_ok a b (by omega)) ?_
      refine hgetK_has _ rfl ?_
      refine needK_has rfl ?_
      refine eqK_has_eq (sg m (a - b)) rfl ?_
      refine hgetK_has _ rfl ?_
      refine secK_has (v := sg m (a - b)) (sg_all _ _).1 (sg_all _ _).2 ?_
      refine Has.intro (Has.intro ?_)
      unfold splus; rw [if_neg h', if_neg hl']

/-- A number with a sign, as a whole number: whether it fits. -/
theorem sint_ok (m : Bool) (a : Nat) (ha : a < 65536 ^ 20) : EP (EE env) 11 [.agg (sg m a)] = some (told (sval m a)) := by
  have h63 : (2 ^ 63 : Nat) = 9223372036854775808 := by decide
  have htop : (9223372036854775808 : Nat) < 65536 ^ 20 := by decide
  have hpow : EP (EE env) 29 [.int .i64 63] = some (.agg (dc 9223372036854775808)) := (power_ok 63 (by decide)).trans (by rw [h63])
  refine Has.eq (EP_has ?_)
  refine callPK_has hpow ?_
  refine hgetK_has _ rfl ?_
  refine needK_has rfl ?_
  refine eqK_has_eq (dc 9223372036854775808) rfl ?_
  refine hgetK_has _ rfl ?_
  refine getK_has (v := .bool m) rfl ?_
  cases m with
  | true =>
    refine hgetK_has _ rfl ?_
    refine secK_has (v := dc a) (sg_tail true a) (by rw [sg_len]; exact Nat.le_refl _) ?_
    refine hgetK_has _ rfl ?_
    refine secK_has (v := dc 9223372036854775808) (tab_sec _).1 (tab_sec _).2 ?_
    refine bindK_has (dc_eq ha htop) ?_
    refine boolK_has (fun h => ?_) (fun h => ?_)
    · have h' := of_decide_eq_true h
      subst h'
      exact Has.intro (Has.intro rfl)
    · have h' := of_decide_eq_false h
      refine hgetK_has _ rfl ?_
      refine secK_has (v := dc a) (sg_tail true a) (by rw [sg_len]; exact Nat.le_refl _) ?_
      refine hgetK_has _ rfl ?_
      refine secK_has (v := dc 9223372036854775808) (tab_sec _).1 (tab_sec _).2 ?_
      refine callPK_has (less_ok a _ ha htop) ?_
      cases hl : decide (a < 9223372036854775808) with
      | false =>
        have hl' := of_decide_eq_false hl
        refine Has.intro (Has.intro ?_)
        have hn : fit (sval true a) = false := by
          rw [Bool.eq_false_iff]; intro hc; have := fit_true hc; simp [sval] at this; omega
        unfold told; rw [hn]; rfl
      | true =>
        have hl' := of_decide_eq_true hl
        have hn : fit (sval true a) = true := by rw [fit_iff]; simp [sval]; omega
        refine hgetK_has _ rfl ?_
        refine secK_has (v := dc a) (sg_tail true a) (by rw [sg_len]; exact Nat.le_refl _) ?_
        refine callPK_has (wide_ok a (by omega)) ?_
        refine hgetK_has _ rfl ?_
        refine needK_has rfl ?_
        refine eqK_has_eq [.int .u64 ((a / 18446744073709551616 : Nat) : Int), .int .u64 ((a % 18446744073709551616 : Nat) : Int)] rfl ?_
        refine hgetK_has _ rfl ?_
        refine getK_has (v := .bool true) rfl ?_
        refine hgetK_has _ rfl ?_
        refine getK_has rfl ?_
        refine eqK_has_eq (a : Int) (by rw [Nat.mod_eq_of_lt (by omega)]; exact wrap_i64 (by omega) (by omega)) ?_
        refine eqK_has_eq (-(a : Int)) ((wrap_i64 (by omega) (by omega)).trans (by omega)) ?_
        refine Has.intro (Has.intro ?_)
        show PV.tup [.int .i64 (-(a : Int)), .bool true] = _
        unfold told; rw [hn]; rfl
  | false =>
    refine hgetK_has _ rfl ?_
    refine secK_has (v := dc a) (sg_tail false a) (by rw [sg_len]; exact Nat.le_refl _) ?_
    refine hgetK_has _ rfl ?_
    refine secK_has (v := dc 9223372036854775808) (tab_sec _).1 (tab_sec _).2 ?_
    refine callPK_has (less_ok a _ ha htop) ?_
    cases hl : decide (a < 9223372036854775808) with
    | false =>
      have hl' := of_decide_eq_false hl
      refine Has.intro (Has.intro ?_)
      have hn : fit (sval false a) = false := by
        rw [Bool.eq_false_iff]; intro hc; have := fit_true hc; simp [sval] at this; omega
      unfold told; rw [hn]; rfl
    | true =>
      have hl' := of_decide_eq_true hl
      have hn : fit (sval false a) = true := by rw [fit_iff]; simp [sval]; omega
      refine hgetK_has _ rfl ?_
      refine secK_has (v := dc a) (sg_tail false a) (by rw [sg_len]; exact Nat.le_refl _) ?_
      refine callPK_has (wide_ok a (by omega)) ?_
      refine hgetK_has _ rfl ?_
      refine needK_has rfl ?_
      refine eqK_has_eq [.int .u64 ((a / 18446744073709551616 : Nat) : Int), .int .u64 ((a % 18446744073709551616 : Nat) : Int)] rfl ?_
      refine hgetK_has _ rfl ?_
      refine getK_has (v := .bool false) rfl ?_
      refine hgetK_has _ rfl ?_
      refine getK_has rfl ?_
      refine eqK_has_eq (a : Int) (by rw [Nat.mod_eq_of_lt (by omega)]; exact wrap_i64 (by omega) (by omega)) ?_
      refine Has.intro (Has.intro ?_)
      show PV.tup [.int .i64 (a : Int), .bool true] = _
      unfold told; rw [hn]; rfl
end Go.Proofs.Ytilfmfnngkangaa
