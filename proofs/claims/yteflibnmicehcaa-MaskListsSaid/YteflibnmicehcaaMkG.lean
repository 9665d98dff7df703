/-
  MaskOnce in the abstract machine.
-/
import Derived.Test.YteflibnmicehcaaMkF
set_option linter.all false
set_option linter.unusedVariables false
set_option linter.unusedSimpArgs false
set_option linter.unusedSectionVars false
namespace Go.Proofs.Yteflibnmicehcaa
open Go Go.VM

theorem slv_sl (l : List Int) : ∃ x, slv l = .sl x l.length (ints l) := by
  cases l with
  | nil => exact ⟨_, rfl⟩
  | cons a l => exact ⟨_, rfl⟩
theorem msq_in : ∀ n, n < 9 → ∀ x ∈ msq n, 1 ≤ x ∧ x < 2 ^ n := by decide +kernel
def chain : List Nat → Bool
  | a :: b :: l => decide (ahd a b) && chain (b :: l)
  | _ => true
theorem chain_get : ∀ (l : List Nat) (i : Nat) (a b : Nat), chain l = true → l[i]? = some a → l[i + 1]? = some b → ahd a b := by
  intro l
  induction l with
  | nil => intro i a b _ h; simp at h
  | cons x l ih =>
    intro i a b hc h1 h2
    cases l with
    | nil => simp at h2
    | cons y l =>
      unfold chain at hc
      rw [Bool.and_eq_true, decide_eq_true_eq] at hc
      cases i with
      | zero => simp at h1 h2; subst h1 h2; exact hc.1
      | succ i => exact ih i a b hc.2 (by simpa using h1) (by simpa using h2)
theorem msq_chain : ∀ n, n < 9 → chain (msq n) = true := by decide +kernel
theorem out_bit : ∀ u, u < 256 → ∀ k, k < 8 → (u &&& (255 - 2 ^ k)) &&& 2 ^ k = 0 := by decide +kernel
theorem in_bit : ∀ u, u < 256 → ∀ k, k < 8 → (u ||| 2 ^ k) &&& 2 ^ k ≠ 0 := by decide +kernel

theorem shl1_64 {c : Nat} (h : c ≤ 8) : IntKind.i64.wrap (1 * 2 ^ (min ((c : Nat) : Int).toNat IntKind.i64.bits)) = ((2 ^ c : Nat) : Int) := by
  have e : min ((c : Nat) : Int).toNat IntKind.i64.bits = c := by show min c 64 = c; omega
  rw [e, Int.one_mul]
  have : ((2 : Int) ^ c) = ((2 ^ c : Nat) : Int) := by simp
  rw [this]
  have h2 : 2 ^ c ≤ 2 ^ 8 := Nat.pow_le_pow_right (by decide) h
  exact i64_small (by omega)
theorem clamp_min (n : Int) : (bif false then (if (8 : Int) > n then (8 : Int) else n) else (if (8 : Int) < n then (8 : Int) else n)) = min n 8 := by
  simp only [cond_false]; split <;> omega
theorem clamp_max (n : Int) : (bif true then (if min n 8 > (0 : Int) then min n 8 else (0 : Int)) else (if min n 8 < (0 : Int) then min n 8 else (0 : Int))) = ((clampN n : Nat) : Int) := by
  simp only [cond_true]; unfold clampN; split <;> omega
theorem nl_get {l : List Nat} {i x : Nat} (h : l[i]? = some x) : (nl l)[i]? = some (x : Int) := by simp [nl, h]

theorem out_has (m node : Int) : ¬ (m8 ((m8 m &&& (255 - bitOf node) : Nat) : Int) &&& bitOf node ≠ 0) := by
  have hm := m8_lt m
  rw [m8_nat (and_lt8 _ hm)]
  intro h
  apply h
  unfold bitOf
  split
  · exact out_bit _ hm _ (by omega)
  · exact Nat.and_zero _
theorem in_has (m node : Int) : (m8 ((m8 m ||| bitOf node : Nat) : Int) &&& bitOf node ≠ 0) ↔ (0 ≤ node ∧ node < 8) := by
  have hm := m8_lt m
  rw [m8_nat (or_lt8 hm (bitOf_lt node))]
  unfold bitOf
  split
  · rename_i h
    exact ⟨fun _ => h, fun _ => in_bit _ hm _ (by omega)⟩
  · rename_i h
    exact ⟨fun hh => absurd (Nat.and_zero _) hh, fun hh => absurd hh h⟩

theorem once_ok (ps : List PV) (h : HasArgs [.int .i64, .int .i64, .int .i64] ps) : ∃ H', EE env (.fn 5) (ps.map .pv) [] = some (.pv (.bool true), H') := by
  obtain ⟨p1, _, rfl, h1, p2, _, rfl, h2, p3, _, rfl, h3, rfl⟩ := h
  obtain ⟨n, rfl, _⟩ := arg_i64 h1
  obtain ⟨m, rfl, _⟩ := arg_i64 h2
  obtain ⟨node, rfl, _⟩ := arg_i64 h3
  clear h1 h2 h3
  have hk := clampN_le n
  have hlen := msq_len (clampN n) (by omega)
  have hin := msq_in (clampN n) (by omega)
  have hch := msq_chain (clampN n) (by omega)
  have hpow : 2 ^ clampN n ≤ 2 ^ 8 := Nat.pow_le_pow_right (by decide) hk
  have hpow1 : 1 ≤ 2 ^ clampN n := Nat.pow_pos (by decide)
  have hmasks := masks_ok n 300
  have hclamp := clamp_max n
  generalize clampN n = k at *
  have htake : (msq k).take (300 : Int).toNat = msq k := List.take_of_length_le (by show _ ≤ 300; omega)
  rw [htake] at hmasks
  obtain ⟨x, hx⟩ := slv_sl (nl (msq k))
  rw [hx, nl_len] at hmasks
  refine law_end (EE_has ?_)
  refine callPK_has first_ok ?_
  refine callPK_has hmasks ?_
  refine eqK_has_eq _ (clamp_min n) ?_
  refine eqK_has_eq _ hclamp ?_
  refine needK_has (by simp) ?_
  refine eqK_has_eq _ (shl1_64 hk) ?_
  refine eqK_has_eq ((2 ^ k - 1 : Nat) : Int) ((wrap_i64 (by omega) (by omega)).trans (by omega)) ?_
  refine boolK_bne_f (by rw [hlen]) ?_
  refine loopK_has ?_
  refine iterE_up (msq k).length (fun i => [(1, .pv (.int .i64 m)), (2, .pv (.int .i64 node)), (7, .pv (.sl x (msq k).length (ints (nl (msq k))))), (8, .pv (.int .i64 (k : Int))), (24, .pv (.sl x (msq k).length (ints (nl (msq k))))), (25, .pv (.int .i64 (msq k).length)), (26, .pv (.int .i64 i))]) (fun _ => []) (fun i hi r => ?_) (fun r => ?_) ⟨rfl, rfl, rfl, rfl, rfl, rfl, rfl, trivial⟩ rfl
  · obtain ⟨v, hv⟩ : ∃ v, (msq k)[i]? = some v := ⟨_, List.getElem?_eq_getElem hi⟩
    obtain ⟨v1, v2⟩ := hin v (List.mem_of_getElem? hv)
    refine boolK_dec_t (by omega) ?_
    refine needK_has (by simp; omega) ?_
    refine getK_has (ints_get (nl_get hv)) ?_
    refine boolK_dec_f (by omega) ?_
    refine needK_has (by simp) ?_
    refine eqK_has_eq _ (shl1_64 hk) ?_
    refine boolK_dec_f (by omega) ?_
    refine boolK_dec (fun h0 => ?_) (fun h0 => ?_)
    · obtain ⟨j, rfl⟩ : ∃ j, i = j + 1 := ⟨i - 1, by have h' : ((i : Nat) : Int) > 0 := h0; omega⟩
      obtain ⟨w, hw⟩ : ∃ w, (msq k)[j]? = some w := ⟨_, List.getElem?_eq_getElem (by omega)⟩
      obtain ⟨w1, w2⟩ := hin w (List.mem_of_getElem? hw)
      refine eqK_has_eq ((j : Nat) : Int) ((wrap_i64 (by omega) (by omega)).trans (by omega)) ?_
      refine needK_has (by simp; omega) ?_
      refine getK_has (ints_get (nl_get hw)) ?_
      refine callPK_dec_t (ahead_ok _ _) (by rw [m8_nat (by omega), m8_nat (by omega)]; exact chain_get _ j w v hch hw hv) ?_
      refine eqK_has_eq _ (i64_succ (by omega)) ?_
      exact Has.intro ⟨⟨rfl, rfl, rfl, rfl, rfl, rfl, rfl, trivial⟩, rfl⟩
    · refine eqK_has_eq _ (i64_succ (by omega)) ?_
      exact Has.intro ⟨⟨rfl, rfl, rfl, rfl, rfl, rfl, rfl, trivial⟩, rfl⟩
  · refine boolK_dec_f (by omega) ?_
    refine Has.intro ?_
    refine callPK_has (without_ok m node) ?_
    refine callPK_dec_f (has_ok _ node) (out_has m node) ?_
    refine callPK_has (with_ok m node) ?_
    refine callPK_has (has_ok _ node) ?_
    have hi := in_has m node
    refine boolK_dec (fun g => ?_) (fun g => ?_)
    · refine boolK_dec (fun g2 => ?_) (fun g2 => ?_)
      · refine boolK_has_true (by rw [decide_eq_true (hi.2 ⟨g, g2⟩)]; rfl) ?_
        exact Has.intro rfl
      · refine boolK_has_true (by rw [decide_eq_false (fun h => g2 (hi.1 h).2)]; rfl) ?_
        exact Has.intro rfl
    · refine boolK_has_true (by rw [decide_eq_false (fun h => g (hi.1 h).1)]; rfl) ?_
      exact Has.intro rfl
end Go.Proofs.Yteflibnmicehcaa
