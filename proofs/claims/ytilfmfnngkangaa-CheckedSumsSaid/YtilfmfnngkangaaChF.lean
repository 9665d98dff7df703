/-
  The document's numbers of twenty digits: sums, differences, which is less, powers of two.
-/
import Derived.Test.YtilfmfnngkangaaChD
import Derived.Test.YtilfmfnngkangaaV7
set_option linter.all false
set_option linter.unusedVariables false
set_option linter.unusedSimpArgs false
set_option linter.unusedSectionVars false
namespace Go.Proofs.Ytilfmfnngkangaa
open Go Go.VM

theorem u64_tmod (a b : Nat) : ((a : Nat) : Int).tmod ((b : Nat) : Int) = ((a % b : Nat) : Int) := rfl
theorem u64_tdiv (a b : Nat) (h : a < 18446744073709551616) : IntKind.u64.wrap (((a : Nat) : Int).tdiv ((b : Nat) : Int)) = ((a / b : Nat) : Int) := by
  show IntKind.u64.wrap ((a / b : Nat) : Int) = _
  exact u64_nat (Nat.lt_of_le_of_lt (Nat.div_le_self _ _) h)

/-- A loop's first digits are the one's, the others the other one's. -/
def mix (i : Nat) (f g : Nat → Nat) : Nat → Nat := fun j => if j < i then f j else g j
theorem mix_at {i : Nat} {f g : Nat → Nat} : mix i f g i = g i := if_neg (Nat.lt_irrefl i)
theorem mix_set (n i : Nat) (f g : Nat → Nat) : (tab n (dpv (mix i f g))).set i (.int .u64 ((f i : Nat) : Int)) = tab n (dpv (mix (i + 1) f g)) := by
  refine tab_set_eq ?_ fun j _ hj => ?_
  · show PV.int .u64 ((mix (i + 1) f g i : Nat) : Int) = _
    unfold mix; rw [if_pos (by omega)]
  · show PV.int .u64 ((mix i f g j : Nat) : Int) = .int .u64 ((mix (i + 1) f g j : Nat) : Int)
    unfold mix
    by_cases h : j < i
    · rw [if_pos h, if_pos (by omega)]
    · rw [if_neg h, if_neg (by omega)]
theorem mix_full (n : Nat) (f g : Nat → Nat) : tab n (dpv (mix n f g)) = tab n (dpv f) :=
  tab_congr fun j hj => by show PV.int .u64 ((mix n f g j : Nat) : Int) = _; unfold mix; rw [if_pos hj]; rfl
theorem mix_none (n : Nat) (f g : Nat → Nat) : tab n (dpv (mix 0 f g)) = tab n (dpv g) :=
  tab_congr fun j _ => by show PV.int .u64 ((mix 0 f g j : Nat) : Int) = _; unfold mix; rw [if_neg (by omega)]; rfl
theorem dzero : (List.replicate 20 (PV.int .u64 0)) = dc 0 := by
  unfold dc
  have : tab 20 (dpv (dgt 0)) = tab 20 (fun _ => PV.int .u64 0) := tab_congr fun j _ => by
    show PV.int .u64 ((dgt 0 j : Nat) : Int) = _
    have : dgt 0 j = 0 := by unfold dgt sh; simp
    rw [this]; rfl
  rw [this]; rfl

theorem plus_ok (a b : Nat) : EP (EE env) 26 [.agg (dc a), .agg (dc b)] = some (.agg (dc (a + b))) := by
  refine Has.eq (EP_has ?_)
  refine loopK_has ?_
  refine iterE_up 20 (fun i => [(2, .ptr 0 0), (3, .ptr 1 0), (4, .ptr 2 0), (5, .pv (.int .u64 ((sh (a + b) i - sh a i - sh b i : Nat) : Int))), (6, .pv (.int .i64 i))])
    (fun i => [.pcells (tab 20 (dpv (mix i (dgt (a + b)) (dgt a)))), .pcells (dc b), .pcells (dc 0)]) (fun i hi r => ?_) (fun r => ?_) ⟨rfl, rfl, rfl, ?_, rfl, trivial⟩ ?_
  · have inv : sh a i + sh b i ≤ sh (a + b) i ∧ sh (a + b) i ≤ sh a i + sh b i + 1 := by
      unfold sh
      have hp : 0 < 65536 ^ i := Nat.pow_pos (by decide)
      rw [Nat.add_div hp]
      split <;> omega
    have h0 := sh_succ a i
    have h1 := sh_succ b i
    have h2 := sh_succ (a + b) i
    have da : dgt a i = sh a i % 65536 := rfl
    have db : dgt b i = sh b i % 65536 := rfl
    have ds : dgt (a + b) i = sh (a + b) i % 65536 := rfl
    generalize hC : sh (a + b) i - sh a i - sh b i = C at *
    refine boolK_has_true (decide_eq_true (by omega)) ?_
    refine needK_has (by simp; omega) ?_
    refine hgetK_has _ rfl ?_
    refine getK_has (tab_get _ hi) ?_
    refine eqK_has_eq ((C + dgt a i : Nat) : Int) (by
      show IntKind.u64.wrap ((C : Int) + ((mix i (dgt (a + b)) (dgt a) i : Nat) : Int)) = _
      rw [mix_at]
      exact u64_nat (n := C + dgt a i) (by omega)) ?_
    refine needK_has (by simp; omega) ?_
    refine hgetK_has _ rfl ?_
    refine getK_has (tab_get _ hi) ?_
    refine eqK_has_eq ((C + dgt a i + dgt b i : Nat) : Int) (u64_nat (n := C + dgt a i + dgt b i) (by omega)) ?_
    refine needK_has rfl ?_
    refine eqK_has_eq ((dgt (a + b) i : Nat) : Int) ((u64_tmod _ 65536).trans (by rw [ds]; congr 1; omega)) ?_
    refine needK_has (by simp; omega) ?_
    refine hgetK_has _ rfl ?_
    refine needK_has (tab_blt _ hi) ?_
    refine eqK_has_eq _ (mix_set 20 i _ _) ?_
    refine needK_has rfl ?_
    refine eqK_has_eq ((sh (a + b) (i + 1) - sh a (i + 1) - sh b (i + 1) : Nat) : Int) ((u64_tdiv _ 65536 (by omega)).trans (by congr 1; omega)) ?_
    refine eqK_has_eq _ (i64_succ (by omega)) ?_
    exact Has.intro ⟨⟨rfl, rfl, rfl, rfl, rfl, trivial⟩, rfl⟩
  · refine boolK_has_false (decide_eq_false (by omega)) ?_
    refine Has.intro ?_
    refine hgetK_has _ rfl ?_
    refine secK_has (v := dc (a + b)) ((tab_sec _).1.trans (mix_full 20 _ _)) (tab_sec _).2 ?_
    refine hgetK_has _ rfl ?_
    refine needK_has (by rw [dc_len, dc_len]; rfl) ?_
    refine eqK_has_eq (dc (a + b)) (by
      show (dc 0).take 0 ++ dc (a + b) ++ (dc 0).drop (0 + 20) = _
      rw [List.take_zero, List.nil_append, List.drop_of_length_le (by rw [dc_len]; exact Nat.le_refl _), List.append_nil]) ?_
    refine hgetK_has _ rfl ?_
    refine secK_has (v := dc (a + b)) (tab_sec _).1 (tab_sec _).2 ?_
    exact Has.intro (Has.intro rfl)
  · show AV.pv (.int .u64 0) = _
    rw [sh_zero, sh_zero, sh_zero]
    have : a + b - a - b = 0 := by omega
    rw [this]; rfl
  · show [HObj.pcells _, .pcells _, .pcells _] = _
    rw [mix_none]
    rfl

theorem less_ok (a b : Nat) (ha : a < 65536 ^ 20) (hb : b < 65536 ^ 20) : EP (EE env) 27 [.agg (dc a), .agg (dc b)] = some (.bool (decide (a < b))) := by
  refine Has.eq (EP_has ?_)
  refine loopK_has ?_
  refine iterE_loop (fun m => 20 - m) (fun m => [(2, .ptr 0 0), (3, .ptr 1 0), (5, .pv (.int .i64 (19 - (m : Int))))]) (fun _ => [.pcells (dc a), .pcells (dc b)])
    (fun m => m ≤ 20 ∧ sh a (20 - m) = sh b (20 - m)) (fun m ⟨hm, he⟩ r => ?_) 0 ⟨by decide, by rw [sh_of_lt ha, sh_of_lt hb]⟩ ⟨rfl, rfl, rfl, trivial⟩ rfl
  refine boolK_has (fun hc => ?_) (fun hc => ?_)
  · have hlt : m < 20 := by have := of_decide_eq_true hc; omega
    have hn : (19 - (m : Int)).toNat = 19 - m := by omega
    have ea : dgt a (19 - m) = sh a (19 - m) % 65536 := rfl
    have eb : dgt b (19 - m) = sh b (19 - m) % 65536 := rfl
    have sa := sh_succ a (19 - m)
    have sb := sh_succ b (19 - m)
    rw [show 19 - m + 1 = 20 - m by omega] at sa sb
    refine needK_has (by simp; omega) ?_
    refine hgetK_has _ rfl ?_
    refine getK_has (show (dc a)[addO 0 (19 - (m : Int)).toNat]? = some (dpv (dgt a) (19 - m)) by rw [hn]; exact tab_get _ (show 19 - m < 20 by omega)) ?_
    refine needK_has (by simp; omega) ?_
    refine hgetK_has _ rfl ?_
    refine getK_has (show (dc b)[addO 0 (19 - (m : Int)).toNat]? = some (dpv (dgt b) (19 - m)) by rw [hn]; exact tab_get _ (show 19 - m < 20 by omega)) ?_
    refine boolK_has (fun h => ?_) (fun h => ?_)
    · have hne : dgt a (19 - m) ≠ dgt b (19 - m) := by
        simp at h; omega
      refine needK_has (by simp; omega) ?_
      refine hgetK_has _ rfl ?_
      refine getK_has (show (dc a)[addO 0 (19 - (m : Int)).toNat]? = some (dpv (dgt a) (19 - m)) by rw [hn]; exact tab_get _ (show 19 - m < 20 by omega)) ?_
      refine needK_has (by simp; omega) ?_
      refine hgetK_has _ rfl ?_
      refine getK_has (show (dc b)[addO 0 (19 - (m : Int)).toNat]? = some (dpv (dgt b) (19 - m)) by rw [hn]; exact tab_get _ (show 19 - m < 20 by omega)) ?_
      have key : decide ((dgt a (19 - m) : Int) < (dgt b (19 - m) : Int)) = decide (a < b) := by
        have h1 : a < b ↔ sh a (19 - m) < sh b (19 - m) := by
          constructor
          · intro hab
            have := sh_mono (Nat.le_of_lt hab) (19 - m)
            omega
          · intro hs
            rcases Nat.lt_or_ge a b with h2 | h2
            · exact h2
            · have := sh_mono h2 (19 - m); omega
        rw [Bool.eq_iff_iff]
        simp only [decide_eq_true_eq]
        rw [h1]
        omega
      refine boolK_has_eq key ?_
      exact Has.intro (Has.intro (Has.intro rfl))
    · have heq : dgt a (19 - m) = dgt b (19 - m) := by
        simp at h; omega
      refine eqK_has_eq (19 - ((m + 1 : Nat) : Int)) (by rw [wrap_i64 (by omega) (by omega)]; omega) ?_
      refine Has.intro ⟨m + 1, ⟨hlt, ?_⟩, by omega, ⟨rfl, rfl, rfl, trivial⟩, rfl⟩
      rw [show 20 - (m + 1) = 19 - m by omega]
      omega
  · have hm20 : m = 20 := by have := of_decide_eq_false hc; omega
    subst hm20
    rw [Nat.sub_self, sh_zero, sh_zero] at he
    refine Has.intro (Has.intro (Has.intro ?_))
    show PV.bool false = _
    rw [he]; simp

theorem minus_ok (a b : Nat) (hba : b ≤ a) : EP (EE env) 28 [.agg (dc a), .agg (dc b)] = some (.agg (dc (a - b))) := by
  obtain ⟨s, rfl⟩ : ∃ s, a = s + b := ⟨a - b, by omega⟩
  rw [Nat.add_sub_cancel]
  refine Has.eq (EP_has ?_)
  refine loopK_has ?_
  refine iterE_up 20 (fun i => [(2, .ptr 0 0), (3, .ptr 1 0), (4, .ptr 2 0), (5, .pv (.int .u64 ((sh (s + b) i - sh s i - sh b i : Nat) : Int))), (6, .pv (.int .i64 i))])
    (fun i => [.pcells (tab 20 (dpv (mix i (dgt s) (dgt (s + b))))), .pcells (dc b), .pcells (dc 0)]) (fun i hi r => ?_) (fun r => ?_) ⟨rfl, rfl, rfl, ?_, rfl, trivial⟩ ?_
  · have inv : sh s i + sh b i ≤ sh (s + b) i ∧ sh (s + b) i ≤ sh s i + sh b i + 1 := by
      unfold sh
      have hp : 0 < 65536 ^ i := Nat.pow_pos (by decide)
      rw [Nat.add_div hp]
      split <;> omega
    have h0 := sh_succ s i
    have h1 := sh_succ b i
    have h2 := sh_succ (s + b) i
    have da : dgt s i = sh s i % 65536 := rfl
    have db : dgt b i = sh b i % 65536 := rfl
    have ds : dgt (s + b) i = sh (s + b) i % 65536 := rfl
    generalize hC : sh (s + b) i - sh s i - sh b i = C at *
    refine boolK_has_true (decide_eq_true (by omega)) ?_
    refine needK_has (by simp; omega) ?_
    refine hgetK_has _ rfl ?_
    refine getK_has (tab_get _ hi) ?_
    refine eqK_has_eq ((dgt (s + b) i + 65536 : Nat) : Int) (by
      show IntKind.u64.wrap (((mix i (dgt s) (dgt (s + b)) i : Nat) : Int) + 65536) = _
      rw [mix_at]
      exact u64_nat (n := dgt (s + b) i + 65536) (by omega)) ?_
    refine needK_has (by simp; omega) ?_
    refine hgetK_has _ rfl ?_
    refine getK_has (tab_get _ hi) ?_
    refine eqK_has_eq ((dgt (s + b) i + 65536 - dgt b i : Nat) : Int) (by
      show IntKind.u64.wrap (((dgt (s + b) i + 65536 : Nat) : Int) - ((dgt b i : Nat) : Int)) = _
      rw [wrap_u64_emod]; omega) ?_
    refine eqK_has_eq ((dgt (s + b) i + 65536 - dgt b i - C : Nat) : Int) (by
      rw [wrap_u64_emod]; omega) ?_
    refine needK_has rfl ?_
    refine eqK_has_eq ((dgt s i : Nat) : Int) ((u64_tmod _ 65536).trans (by rw [da]; congr 1; omega)) ?_
    refine needK_has (by simp; omega) ?_
    refine hgetK_has _ rfl ?_
    refine needK_has (tab_blt _ hi) ?_
    refine eqK_has_eq _ (mix_set 20 i _ _) ?_
    refine needK_has rfl ?_
    refine eqK_has_eq _ (u64_tdiv _ 65536 (by omega)) ?_
    refine eqK_has_eq ((sh (s + b) (i + 1) - sh s (i + 1) - sh b (i + 1) : Nat) : Int) (by
      rw [wrap_u64_emod]; omega) ?_
    refine eqK_has_eq _ (i64_succ (by omega)) ?_
    exact Has.intro ⟨⟨rfl, rfl, rfl, rfl, rfl, trivial⟩, rfl⟩
  · refine boolK_has_false (decide_eq_false (by omega)) ?_
    refine Has.intro ?_
    refine hgetK_has _ rfl ?_
    refine secK_has (v := dc s) ((tab_sec _).1.trans (mix_full 20 _ _)) (tab_sec _).2 ?_
    refine hgetK_has _ rfl ?_
    refine needK_has (by rw [dc_len, dc_len]; rfl) ?_
    refine eqK_has_eq (dc s) (by
      show (dc 0).take 0 ++ dc s ++ (dc 0).drop (0 + 20) = _
      rw [List.take_zero, List.nil_append, List.drop_of_length_le (by rw [dc_len]; exact Nat.le_refl _), List.append_nil]) ?_
    refine hgetK_has _ rfl ?_
    refine secK_has (v := dc s) (tab_sec _).1 (tab_sec _).2 ?_
    exact Has.intro (Has.intro rfl)
  · show AV.pv (.int .u64 0) = _
    rw [sh_zero, sh_zero, sh_zero]
    have : s + b - s - b = 0 := by omega
    rw [this]; rfl
  · show [HObj.pcells _, .pcells _, .pcells _] = _
    rw [mix_none]
    rfl
end Go.Proofs.Ytilfmfnngkangaa
