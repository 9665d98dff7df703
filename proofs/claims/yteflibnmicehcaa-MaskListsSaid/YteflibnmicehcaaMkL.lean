/-
  MaskLists in the abstract machine.
-/
import Derived.Test.YteflibnmicehcaaMkK
set_option linter.all false
set_option linter.unusedVariables false
set_option linter.unusedSimpArgs false
set_option linter.unusedSectionVars false
namespace Go.Proofs.Yteflibnmicehcaa
open Go Go.VM

theorem ints_els : ∀ (n : Nat) (cs : List PV), Els (HasTy (.int .i64)) 1 n cs → ∃ l : List Int, l.length = n ∧ cs = ints l := by
  intro n
  induction n with
  | zero => intro cs h; exact ⟨[], rfl, h⟩
  | succ n ih =>
    intro cs ⟨a, b, h1, h2, h3, h4⟩
    obtain ⟨l, g1, g2⟩ := ih b h4
    obtain ⟨q, rfl⟩ := list1 h2
    obtain ⟨x, e, _⟩ := arg_i64 h3
    exact ⟨x :: l, by simp [g1], by rw [h1, g2, e]; rfl⟩
theorem kmin (most : Int) : (bif false then (if (300 : Int) > most then (300 : Int) else most) else (if (300 : Int) < most then (300 : Int) else most)) = min most 300 := by
  simp only [cond_false]; split <;> omega
theorem kmax (most : Int) : (bif true then (if min most 300 > (0 : Int) then min most 300 else (0 : Int)) else (if min most 300 < (0 : Int) then min most 300 else (0 : Int))) = (((max 0 (min most 300)).toNat : Nat) : Int) := by
  simp only [cond_true]; split <;> omega
theorem min_len (k n : Nat) : (bif false then (if (n : Int) > (k : Int) then (n : Int) else (k : Int)) else (if (n : Int) < (k : Int) then (n : Int) else (k : Int))) = ((min k n : Nat) : Int) := by
  simp only [cond_false]; split <;> omega

theorem lists_ok (ps : List PV) (h : HasArgs [.sl 1 (.int .i64), .int .i64, .int .i64] ps) : ∃ H', EE env (.fn 3) (ps.map .pv) [] = some (.pv (.bool true), H') := by
  obtain ⟨p1, _, rfl, ⟨x, len, cells, e1, _, e3, e4⟩, p2, _, rfl, h2, p3, _, rfl, h3, rfl⟩ := h
  obtain ⟨l, g1, g2⟩ := ints_els _ _ e4
  injection e1 with e1
  subst g1 g2 e1
  obtain ⟨n, rfl, _⟩ := arg_i64 h2
  obtain ⟨most, rfl, _⟩ := arg_i64 h3
  clear e4 h2 h3
  have hk8 := clampN_le n
  have hclamp := clamp_max n
  have hmasks := masks_ok n ((((max 0 (min most 300)).toNat : Nat)) : Int)
  have hK : (max 0 (min most 300)).toNat ≤ 300 := by omega
  have hkmax := kmax most
  generalize (max 0 (min most 300)).toNat = K at *
  have hall := rmasks_ok (clampN n) hk8
  have hml := msq_len (clampN n) (by omega)
  have hpow : 2 ^ clampN n ≤ 2 ^ 8 := Nat.pow_le_pow_right (by decide) hk8
  generalize clampN n = c at *
  have hu := ofL_lt l
  have hnodes := nodes_ok (ofL l : Int) (K : Int)
  rw [m8_nat hu] at hnodes
  have hcnt := cnt_le _ hu
  have hcl : cnt (ofL l) = (nds (ofL l)).length := rfl
  have hrn : EP (EE env) 14 [.agg (bset (ofL l))] = some (slv (nl (nds (ofL l)))) := rnodes_ok
  have hKn : ((K : Nat) : Int).toNat = K := rfl
  rw [hKn] at hmasks hnodes
  obtain ⟨x1, hx1⟩ := slv_sl (nl (msq c))
  obtain ⟨x2, hx2⟩ := slv_sl (nl ((msq c).take K))
  obtain ⟨x3, hx3⟩ := slv_sl (nl (nds (ofL l)))
  obtain ⟨x4, hx4⟩ := slv_sl (nl ((nds (ofL l)).take K))
  rw [hx1, nl_len] at hall
  rw [hx2, nl_len] at hmasks
  rw [hx3, nl_len] at hrn
  rw [hx4, nl_len] at hnodes
  have same : ∀ (y z : Ext) (L : List Nat), L.length ≤ 1000 → EP (EE env) 11 [.sl y (L.take K).length (ints (nl (L.take K))), .sl z (min K L.length) (ints (nl (L.take (min K L.length))))] = some (.bool true) := by
    intro y z L hL
    have e : L.take (min K L.length) = L.take K := by
      by_cases hh : K ≤ L.length
      · rw [Nat.min_eq_left hh]
      · rw [Nat.min_eq_right (by omega), List.take_length, List.take_of_length_le (by omega)]
    have e2 : (L.take K).length = min K L.length := List.length_take
    have h1 := same_ok y z (nl (L.take K)) (nl (L.take K)) (by rw [nl_len, e2, maxLen_eq]; omega)
    rw [nl_len, decide_eq_true rfl] at h1
    rw [e, ← e2]
    exact h1
  refine law_end (EE_has ?_)
  refine callPK_has first_ok ?_
  refine boolK_dec (fun _ => Has.intro rfl) (fun hb => ?_)
  have hlen : l.length ≤ 300 := by omega
  refine loopK_has ?_
  refine iterE_up l.length (fun i => [(0, .pv (.sl x l.length (ints l))), (1, .pv (.int .i64 n)), (2, .pv (.int .i64 most)), (7, .ptr 0 0), (18, .pv (.sl x l.length (ints l))), (19, .pv (.int .i64 l.length)), (20, .pv (.int .i64 i))])
    (fun i => [.pcells (bset (ofL (l.take i)))]) (fun i hi r => ?_) (fun r => ?_) ⟨rfl, rfl, rfl, rfl, rfl, rfl, rfl, trivial⟩ (by
      show [HObj.pcells _] = _
      have : bset (ofL (l.take 0)) = tab 8 (fun _ => .bool false) := tab_congr fun j _ => by rw [List.take_zero]; show PV.bool ((0 : Nat).testBit j) = _; rw [Nat.zero_testBit]
      rw [this]; rfl)
  · obtain ⟨v, hv⟩ : ∃ v, l[i]? = some v := ⟨l[i], List.getElem?_eq_getElem hi⟩
    have htk := ofL_take hv
    have hul := ofL_lt (l.take i)
    refine boolK_dec_t (by omega) ?_
    refine needK_has (by simp; omega) ?_
    refine getK_has (ints_get hv) ?_
    refine boolK_dec (fun hg => ?_) (fun hg => ?_)
    · refine boolK_dec (fun hg2 => ?_) (fun hg2 => ?_)
      · obtain ⟨k, rfl⟩ : ∃ k : Nat, v = (k : Int) := ⟨v.toNat, by omega⟩
        have hk : k < 8 := by omega
        have hbit : bitOf (k : Int) = 2 ^ k := by unfold bitOf; rw [if_pos (by omega)]; rfl
        rw [hbit] at htk
        refine needK_has (by simp; omega) ?_
        refine hgetK_has _ rfl ?_
        refine needK_has (tab_blt _ hk) ?_
        refine eqK_has_eq (bset (ofL (l.take (i + 1)))) ((bset_in hul hk).trans (by rw [htk])) ?_
        refine eqK_has_eq _ (i64_succ (by omega)) ?_
        exact Has.intro ⟨⟨rfl, rfl, rfl, rfl, rfl, rfl, rfl, trivial⟩, rfl⟩
      · have hbit : bitOf v = 0 := by unfold bitOf; rw [if_neg (by omega)]
        rw [hbit, Nat.or_zero] at htk
        refine eqK_has_eq _ (i64_succ (by omega)) ?_
        exact Has.intro ⟨⟨rfl, rfl, rfl, rfl, rfl, rfl, rfl, trivial⟩, by rw [htk]⟩
    · have hbit : bitOf v = 0 := by unfold bitOf; rw [if_neg (by omega)]
      rw [hbit, Nat.or_zero] at htk
      refine eqK_has_eq _ (i64_succ (by omega)) ?_
      exact Has.intro ⟨⟨rfl, rfl, rfl, rfl, rfl, rfl, rfl, trivial⟩, by rw [htk]⟩
  · refine boolK_dec_f (by omega) ?_
    refine Has.intro ?_
    rw [List.take_length]
    refine eqK_has_eq _ (kmin most) ?_
    refine eqK_has_eq _ hkmax ?_
    refine eqK_has_eq _ (clamp_min n) ?_
    refine eqK_has_eq _ hclamp ?_
    refine callPK_has hall ?_
    refine callPK_has (of_ok x l e3) ?_
    refine hgetK_has _ rfl ?_
    refine secK_has (v := bset (ofL l)) (tab_sec _).1 (tab_sec _).2 ?_
    refine callPK_has (rmask_ok hu) ?_
    refine boolK_has_true (by simp) ?_
    refine callPK_has hmasks ?_
    refine eqK_has_eq _ (min_len K (msq c).length) ?_
    refine needK_has (by simp; omega) ?_
    refine eqK_has_eq (ints (nl ((msq c).take (min K (msq c).length)))) (by
      show ((ints (nl (msq c))).drop 0).take (min K (msq c).length - 0) = _
      rw [List.drop_zero, ints_take, nl_take]; rfl) ?_
    refine callPK_has (same _ _ (msq c) (by omega)) ?_
    refine callPK_has hnodes ?_
    refine hgetK_has _ rfl ?_
    refine secK_has (v := bset (ofL l)) (tab_sec _).1 (tab_sec _).2 ?_
    refine callPK_has hrn ?_
    refine hgetK_has _ rfl ?_
    refine secK_has (v := bset (ofL l)) (tab_sec _).1 (tab_sec _).2 ?_
    refine callPK_has hrn ?_
    refine eqK_has_eq _ (min_len K (nds (ofL l)).length) ?_
    refine needK_has (by simp; omega) ?_
    refine eqK_has_eq (ints (nl ((nds (ofL l)).take (min K (nds (ofL l)).length)))) (by
      show ((ints (nl (nds (ofL l)))).drop 0).take (min K (nds (ofL l)).length - 0) = _
      rw [List.drop_zero, ints_take, nl_take]; rfl) ?_
    refine callPK_has (same _ _ (nds (ofL l)) (by omega)) ?_
    exact Has.intro rfl
end Go.Proofs.Yteflibnmicehcaa
