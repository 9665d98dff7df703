/-
  Groups: with a file, apt.
-/
import Derived.Test.YtaiomdfajdeacaaPRuC
set_option linter.all false
set_option linter.unusedVariables false
set_option linter.unusedSimpArgs false
set_option linter.unusedSectionVars false
namespace Go.Proofs.Ytaiomdfajdeacaa
open Go Go.VM

theorem kn_len (k : Kn) : (kn k).length = 5 := rfl
theorem with_out {k : Kn} {f n : Int} (h : f < 0 ∨ 4 < f) : with_ k f n = k := by
  unfold with_; rw [if_neg (by omega), if_neg (by omega), if_neg (by omega), if_neg (by omega), if_neg (by omega)]
theorem kwith_ok (k : Kn) (f n : Int) : EP (EE env) 31 [.agg (kn k), .int .i64 f, .int .i64 n] = some (.agg (kn (with_ k f n))) := by
  refine Has.eq (EP_has ?_)
  refine boolK_dec (fun h => ?_) (fun h => ?_)
  · (repeat (first | refine hgetK_last ?_ | refine hgetK_set ?_ | refine hgetK_has _ rfl ?_ | refine needK_has rfl ?_ | refine getK_has rfl ?_ | refine secK_has rfl (by first | exact Nat.le_refl _ | decide) ?_ | refine eqK_has ?_))
    (refine Has.intro (Has.intro ?_))
    rw [with_out (by omega)]; rfl
  · refine boolK_dec (fun h2 => ?_) (fun h2 => ?_)
    · (repeat (first | refine hgetK_last ?_ | refine hgetK_set ?_ | refine hgetK_has _ rfl ?_ | refine needK_has rfl ?_ | refine getK_has rfl ?_ | refine secK_has rfl (by first | exact Nat.le_refl _ | decide) ?_ | refine eqK_has ?_))
      (refine Has.intro (Has.intro ?_))
      rw [with_out (by omega)]; rfl
    · have c : f = 0 ∨ f = 1 ∨ f = 2 ∨ f = 3 ∨ f = 4 := by omega
      refine hgetK_has _ rfl ?_
      refine secK_has (v := kn k) rfl (Nat.le_refl _) ?_
      refine callPK_has (parts_ok k) ?_
      rcases c with c | c | c | c | c <;> subst c
      all_goals
        (repeat (first | refine hgetK_last ?_ | refine hgetK_set ?_ | refine hgetK_has _ rfl ?_ | refine needK_has rfl ?_ | refine getK_has rfl ?_ | refine secK_has rfl (by first | exact Nat.le_refl _ | decide) ?_ | refine eqK_has ?_))
        (refine Has.intro (Has.intro ?_))
        rfl

def clampN (n : Int) : Nat := (max 0 (min n 1000)).toNat
theorem held_ok (n : Int) : EP (EE env) 29 [.int .i64 n, .int .i64 0, .int .i64 1000] = some (.int .i64 (clampN n : Nat)) := by
  refine Has.eq (EP_has ?_)
  refine boolK_dec (fun h => ?_) (fun h => ?_)
  · (refine Has.intro (Has.intro ?_))
    unfold clampN; congr 1; omega
  · refine boolK_dec (fun h2 => ?_) (fun h2 => ?_)
    · (refine Has.intro (Has.intro ?_))
      unfold clampN; congr 1; omega
    · (refine Has.intro (Has.intro ?_))
      unfold clampN; congr 1; omega
theorem most_ok (n : Int) : EP (EE env) 13 [.int .i64 n] = some (.int .i64 (5 + 5 * (clampN n : Nat))) := by
  have h : clampN n ≤ 1000 := by unfold clampN; omega
  refine Has.eq (EP_has ?_)
  refine callPK_has (held_ok n) ?_
  refine eqK_has_eq _ (wrap_i64 (by omega) (by omega)) ?_
  refine eqK_has_eq _ (wrap_i64 (by omega) (by omega)) ?_
  (refine Has.intro (Has.intro ?_))
  congr 1; omega

/-! ### apt -/
/-- Fits one into the group above? -/
def fitK (pod k : Kn) : Prop := right k ∧ k.c ≤ pod.c ∧ k.mn ≤ pod.mn ∧ k.mx ≤ pod.mx ∧ k.hg ≤ pod.hg
instance (pod k : Kn) : Decidable (fitK pod k) := by unfold fitK; infer_instance
def sumC (l : List Kn) : Int := l.foldl (fun s k => s + k.c) 0
theorem foldl_c (l : List Kn) (a : Int) : l.foldl (fun s k => s + k.c) a = a + sumC l := by
  induction l generalizing a with
  | nil => simp [sumC]
  | cons k l ih =>
    show l.foldl _ (a + k.c) = a + l.foldl _ (0 + k.c)
    rw [ih, ih]; omega
theorem sumC_cons (k : Kn) (l : List Kn) : sumC (k :: l) = k.c + sumC l := by
  show l.foldl _ (0 + k.c) = _
  rw [foldl_c]; omega
theorem sumC_app (l m : List Kn) : sumC (l ++ m) = sumC l + sumC m := by
  induction l with
  | nil => simp [sumC]
  | cons k l ih => rw [List.cons_append, sumC_cons, sumC_cons, ih]; omega
theorem sumC_take {l : List Kn} {i : Nat} {k : Kn} (h : l[i]? = some k) : sumC (l.take (i + 1)) = sumC (l.take i) + k.c := by
  rw [List.take_add_one, h, sumC_app]; rw [Option.toList_some, sumC_cons]; show _ = _; simp [sumC]
def aptL (pod : Kn) (l : List Kn) : Prop := right pod ∧ (∀ k ∈ l, fitK pod k) ∧ (pod.c = ((4611686018427387904 : Int)) ∨ sumC l ≤ pod.c)
instance (pod : Kn) (l : List Kn) : Decidable (aptL pod l) := by unfold aptL; infer_instance
theorem right_c {k : Kn} (h : right k) : 0 ≤ k.c ∧ k.c ≤ ((4611686018427387904 : Int)) := by unfold right sumP at h; omega
theorem sumC_pos {l : List Kn} (h : ∀ k ∈ l, 0 ≤ k.c) : 0 ≤ sumC l := by
  induction l with
  | nil => simp [sumC]
  | cons k l ih =>
    rw [sumC_cons]
    have := h k (by simp)
    have := ih fun k hk => h k (by simp [hk])
    omega
theorem sumC_le {l : List Kn} (h : ∀ k ∈ l, 0 ≤ k.c) (i : Nat) : sumC (l.take i) ≤ sumC l := by
  have e : sumC l = sumC (l.take i) + sumC (l.drop i) := by rw [← sumC_app, List.take_append_drop]
  have := sumC_pos (l := l.drop i) fun k hk => h k (List.mem_of_mem_drop hk)
  omega

theorem apt_ok (pod : Kn) (x : Ext) (l : List Kn) (hl : l.length ≤ maxLen) : EP (EE env) 11 [.agg (kn pod), .sl x l.length (kns l)] = some (.bool (decide (aptL pod l))) := by
  rw [maxLen_eq] at hl
  refine Has.eq (EP_has ?_)
  refine hgetK_has _ rfl ?_
  refine secK_has (v := kn pod) rfl (Nat.le_refl _) ?_
  refine callPK_dec (right_ok pod) (fun hr => ?_) (fun hr => Has.intro (Has.intro (no fun h => hr h.1)))
  refine hgetK_has _ rfl ?_
  refine getK_has rfl ?_
  have hpc := right_c hr
  refine loopK_has ?_
  refine iterE_loopJ (σ := Nat) (fun m => l.length - m) (fun m => [(2, .ptr 0 0), (5, .pv (.int .i64 (if pod.c = ((4611686018427387904 : Int)) then ((4611686018427387904 : Int)) else pod.c - sumC (l.take m)))), (13, .pv (.sl x l.length (kns l))), (14, .pv (.int .i64 l.length)), (15, .pv (.int .i64 m))])
    (fun _ => [.pcells (kn pod)]) (fun m => m ≤ l.length ∧ (∀ k ∈ l.take m, fitK pod k) ∧ (pod.c = ((4611686018427387904 : Int)) ∨ sumC (l.take m) ≤ pod.c)) (fun m ⟨hm, hfit, hs⟩ r J => ?_) 0 ⟨Nat.zero_le _, fun k hk => by simp at hk, .inr (by simp [sumC]; omega)⟩ [] ⟨rfl, by
      show AV.pv (PV.int .i64 pod.c) = AV.pv (PV.int .i64 (if pod.c = ((4611686018427387904 : Int)) then ((4611686018427387904 : Int)) else pod.c - sumC (l.take 0)))
      split
      · congr 2
      · simp [sumC], rfl, rfl, rfl, trivial⟩ rfl
  have hnn : 0 ≤ sumC (l.take m) := sumC_pos fun k hk => (right_c (hfit k hk).1).1
  refine boolK_dec (fun hc => ?_) (fun hc => ?_)
  · have hlt : m < l.length := by omega
    obtain ⟨k, hk⟩ : ∃ k, l[m]? = some k := ⟨l[m], List.getElem?_eq_getElem hlt⟩
    have hmem : k ∈ l := List.mem_of_getElem? hk
    obtain ⟨g1, g2⟩ := kns_get hk
    have hst := sumC_take hk
    refine needK_has (by (first | rfl | (simp; done) | (simp; omega))) ?_
    refine secK_has g1 g2 ?_
    refine hgetK_last ?_
    refine needK_has rfl ?_
    refine eqK_has_eq (kn k) rfl ?_
    refine hgetK_set ?_
    refine secK_has (v := kn k) rfl (Nat.le_refl _) ?_
    refine callPK_dec (right_ok k) (fun hrk => ?_) (fun hrk => Has.intro (Has.intro (Has.intro (no fun h => hrk (h.2.1 k hmem).1))))
    have hkc := right_c hrk
    (first | refine hgetK_set ?_ | refine hgetK_has _ rfl ?_)
    refine getK_has rfl ?_
    (first | refine hgetK_set ?_ | refine hgetK_has _ rfl ?_)
    refine getK_has rfl ?_
    refine boolK_dec (fun h1 => Has.intro (Has.intro (Has.intro (no fun h => by have := (h.2.1 k hmem).2.1; omega)))) (fun h1 => ?_)
    (first | refine hgetK_set ?_ | refine hgetK_has _ rfl ?_)
    refine getK_has rfl ?_
    (first | refine hgetK_set ?_ | refine hgetK_has _ rfl ?_)
    refine getK_has rfl ?_
    refine boolK_dec (fun h2 => Has.intro (Has.intro (Has.intro (no fun h => by have := (h.2.1 k hmem).2.2.1; omega)))) (fun h2 => ?_)
    (first | refine hgetK_set ?_ | refine hgetK_has _ rfl ?_)
    refine getK_has rfl ?_
    (first | refine hgetK_set ?_ | refine hgetK_has _ rfl ?_)
    refine getK_has rfl ?_
    refine boolK_dec (fun h3 => Has.intro (Has.intro (Has.intro (no fun h => by have := (h.2.1 k hmem).2.2.2.1; omega)))) (fun h3 => ?_)
    (first | refine hgetK_set ?_ | refine hgetK_has _ rfl ?_)
    refine getK_has rfl ?_
    (first | refine hgetK_set ?_ | refine hgetK_has _ rfl ?_)
    refine getK_has rfl ?_
    refine boolK_dec (fun h4 => Has.intro (Has.intro (Has.intro (no fun h => by have := (h.2.1 k hmem).2.2.2.2; omega)))) (fun h4 => ?_)
    have hfit' : ∀ k' ∈ l.take (m + 1), fitK pod k' := fun k' hk' => by
      rw [List.take_add_one, hk] at hk'
      rcases List.mem_append.1 hk' with h | h
      · exact hfit k' h
      · simp at h; subst h; exact ⟨hrk, by omega, by omega, by omega, by omega⟩
    (first | refine hgetK_set ?_ | refine hgetK_has _ rfl ?_)
    refine getK_has rfl ?_
    refine boolK_bne (fun h5 => ?_) (fun h5 => ?_)
    · rw [if_neg h5]
      (first | refine hgetK_set ?_ | refine hgetK_has _ rfl ?_)
      refine getK_has rfl ?_
      have hs' : sumC (l.take m) ≤ pod.c := hs.resolve_left h5
      refine eqK_has_eq (pod.c - sumC (l.take (m + 1))) ((wrap_i64 (by omega) (by omega)).trans (by omega)) ?_
      refine boolK_dec (fun h6 => Has.intro (Has.intro (Has.intro (no fun h => ?_)))) (fun h6 => ?_)
      · have := h.2.2.resolve_left h5
        have h7 := sumC_le (l := l) (fun k hk => (right_c (h.2.1 k hk).1).1) (m + 1)
        omega
      · refine eqK_has_eq _ (i64_succ (by omega)) ?_
        refine Has.intro ⟨m + 1, ⟨hlt, hfit', .inr (by omega)⟩, by omega, ⟨rfl, by rw [if_neg h5]; rfl, rfl, rfl, rfl, trivial⟩, _, rfl⟩
    · rw [if_pos h5]
      refine boolK_dec_f (by omega) ?_
      refine eqK_has_eq _ (i64_succ (by omega)) ?_
      refine Has.intro ⟨m + 1, ⟨hlt, hfit', .inl h5⟩, by omega, ⟨rfl, by rw [if_pos h5]; rfl, rfl, rfl, rfl, trivial⟩, _, rfl⟩
  · have : m = l.length := by omega
    subst this
    rw [List.take_length] at hfit hs
    (refine Has.intro (Has.intro (Has.intro ?_)))
    exact yes ⟨hr, hfit, hs⟩
end Go.Proofs.Ytaiomdfajdeacaa
