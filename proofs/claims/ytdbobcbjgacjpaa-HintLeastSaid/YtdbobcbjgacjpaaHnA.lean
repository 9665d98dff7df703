/-
  What is free and needed: the right arguments; what is enough.
-/
import Derived.Test.YtdbobcbjgacjpaaPMkK
import Derived.Test.YtdbobcbjgacjpaaV7
set_option linter.all false
set_option linter.unusedVariables false
set_option linter.unusedSimpArgs false
set_option linter.unusedSectionVars false
namespace Go.Proofs.Ytdbobcbjgacjpaa
open Go Go.VM

/-- Cells of numbers. -/
def iv (F : Nat → Int) : Nat → PV := fun j => .int .i64 (F j)
def cb (n : Int) : Prop := 0 ≤ n ∧ n ≤ 1073741824
instance (n : Int) : Decidable (cb n) := by unfold cb; infer_instance
theorem count_ok (n : Int) : EP (EE env) 28 [.int .i64 n] = some (.bool (decide (cb n))) := by
  refine Has.eq (EP_has ?_)
  refine boolK_dec (fun h => ?_) (fun h => Has.intro (Has.intro (no (by unfold cb; omega))))
  refine boolK_dec (fun h' => Has.intro (Has.intro (yes (by unfold cb; omega)))) (fun h' => Has.intro (Has.intro (no (by unfold cb; omega))))
/-- All counts may be. -/
def rt (F N : Nat → Int) : Prop := ∀ k, k < 2 → (∀ i, i < 8 → cb (F (8 * k + i))) ∧ cb (N k)
instance (F N : Nat → Int) : Decidable (rt F N) := by unfold rt; infer_instance

theorem idx28 {k : Nat} (hk : k < 2) (F : Nat → Int) : ((tab 16 (iv F)).drop (k * 8)).take 8 = tab 8 (iv fun i => F (8 * k + i)) ∧ k * 8 + 8 ≤ (tab 16 (iv F)).length := by
  have := tab_part (iv F) (n := 16) (i := k * 8) (m := 8) (by omega)
  refine ⟨this.1.trans (tab_congr fun j hj => ?_), this.2⟩
  show PV.int .i64 (F (k * 8 + j)) = .int .i64 (F (8 * k + j))
  rw [Nat.mul_comm]

def J2 (F N : Nat → Int) : Heap := [.pcells (tab 16 (iv F)), .pcells (tab 2 (iv N))]
/-- What is left behind by k rounds of right. -/
def rtH (F N : Nat → Int) (k : Nat) : Heap := J2 F N ++ (List.range k).map fun i => HObj.pcells (tab 8 (iv fun j => F (8 * i + j)))

theorem right_ok (F N : Nat → Int) : EP (EE env) 21 [.agg (tab 16 (iv F)), .agg (tab 2 (iv N))] = some (.bool (decide (rt F N))) := by
  refine Has.eq (EP_has ?_)
  refine hgetK_has _ rfl ?_
  refine secK_has (v := tab 16 (iv F)) (tab_sec _).1 (tab_sec _).2 ?_
  refine loopK_has ?_
  have body : ∀ (k : Nat) (hk : k < 2), k = 0 ∨ k = 1 := fun k hk => by omega
  refine iterE_loop (σ := Nat) (fun k => 2 - k) (fun k => [(3, .ptr 1 0), (9, .pv (.agg (tab 16 (iv F)))), (10, .pv (.int .i64 ((k : Nat) : Int)))]) (fun k => rtH F N k)
    (fun k => k ≤ 2 ∧ ∀ k', k' < k → (∀ i, i < 8 → cb (F (8 * k' + i))) ∧ cb (N k')) (fun k ⟨hk, hr⟩ r => ?_) 0 ⟨by omega, fun k' h => absurd h (by omega)⟩ ⟨rfl, rfl, rfl, trivial⟩ rfl
  refine boolK_dec (fun hc => ?_) (fun hc => ?_)
  · have hk2 : k < 2 := by omega
    clear hc
    rcases body k hk2 with rfl | rfl
    · refine needK_has rfl ?_
      refine secK_has (idx28 hk2 F).1 (idx28 hk2 F).2 ?_
      refine hgetK_has _ rfl ?_
      refine needK_has (by rw [tab_len]; rfl) ?_
      refine eqK_has_eq (tab 8 (iv fun i => F (8 * 0 + i))) rfl ?_
      refine hgetK_has _ rfl ?_
      refine secK_has (tab_sec _).1 (tab_sec _).2 ?_
      refine loopK_has ?_
      refine iterE_loop (σ := Nat) (fun i => 8 - i) (fun i => [(3, .ptr 1 0), (5, .pv (.int .i64 ((0 : Nat) : Int))), (9, .pv (.agg (tab 16 (iv F)))), (10, .pv (.int .i64 ((0 : Nat) : Int))), (14, .pv (.agg (tab 8 (iv fun i => F (8 * 0 + i))))), (15, .pv (.int .i64 ((i : Nat) : Int)))]) (fun _ => rtH F N (0 + 1))
        (fun i => i ≤ 8 ∧ ∀ j, j < i → cb (F (8 * 0 + j))) (fun i ⟨hi, hj⟩ r => ?_) 0 ⟨by omega, fun j h => absurd h (by omega)⟩ ⟨rfl, rfl, rfl, rfl, rfl, rfl, trivial⟩ rfl
      refine boolK_dec (fun hc => ?_) (fun hc => ?_)
      · have hi8 : i < 8 := by omega
        refine needK_has (by simp; omega) ?_
        refine getK_has (tab_get _ hi8) ?_
        refine callPK_dec (count_ok _) (fun hb => ?_) (fun hb => ?_)
        · refine eqK_has_eq _ (i64_succ (by omega)) ?_
          refine Has.intro ⟨i + 1, ⟨hi8, fun j hji => ?_⟩, by omega, ⟨rfl, rfl, rfl, rfl, rfl, rfl, trivial⟩, rfl⟩
          rcases Nat.lt_or_ge j i with h | h
          · exact hj j h
          · rw [show j = i by omega]; exact hb
        · refine Has.intro (Has.intro (Has.intro (Has.intro (no fun h => hb ?_))))
          exact (h _ hk2).1 i hi8
      · have : i = 8 := by omega
        subst this
        refine Has.intro ?_
        refine needK_has rfl ?_
        refine hgetK_has _ rfl ?_
        refine getK_has rfl ?_
        refine callPK_dec (count_ok _) (fun hb => ?_) (fun hb => ?_)
        · refine eqK_has_eq _ (i64_succ (by omega)) ?_
          refine Has.intro ⟨0 + 1, ⟨hk2, fun k' hk' => ?_⟩, by omega, ⟨rfl, rfl, rfl, trivial⟩, rfl⟩
          rcases Nat.lt_or_ge k' 0 with h | h
          · exact hr k' h
          · rw [show k' = 0 by omega]; exact ⟨fun i hi => hj i hi, hb⟩
        · exact Has.intro (Has.intro (Has.intro (no fun h => hb (h _ hk2).2)))
    · refine needK_has rfl ?_
      refine secK_has (idx28 hk2 F).1 (idx28 hk2 F).2 ?_
      refine hgetK_has _ rfl ?_
      refine needK_has (by rw [tab_len]; rfl) ?_
      refine eqK_has_eq (tab 8 (iv fun i => F (8 * 1 + i))) rfl ?_
      refine hgetK_has _ rfl ?_
      refine secK_has (tab_sec _).1 (tab_sec _).2 ?_
      refine loopK_has ?_
      refine iterE_loop (σ := Nat) (fun i => 8 - i) (fun i => [(3, .ptr 1 0), (5, .pv (.int .i64 ((1 : Nat) : Int))), (9, .pv (.agg (tab 16 (iv F)))), (10, .pv (.int .i64 ((1 : Nat) : Int))), (14, .pv (.agg (tab 8 (iv fun i => F (8 * 1 + i))))), (15, .pv (.int .i64 ((i : Nat) : Int)))]) (fun _ => rtH F N (1 + 1))
        (fun i => i ≤ 8 ∧ ∀ j, j < i → cb (F (8 * 1 + j))) (fun i ⟨hi, hj⟩ r => ?_) 0 ⟨by omega, fun j h => absurd h (by omega)⟩ ⟨rfl, rfl, rfl, rfl, rfl, rfl, trivial⟩ rfl
      refine boolK_dec (fun hc => ?_) (fun hc => ?_)
      · have hi8 : i < 8 := by omega
        refine needK_has (by simp; omega) ?_
        refine getK_has (tab_get _ hi8) ?_
        refine callPK_dec (count_ok _) (fun hb => ?_) (fun hb => ?_)
        · refine eqK_has_eq _ (i64_succ (by omega)) ?_
          refine Has.intro ⟨i + 1, ⟨hi8, fun j hji => ?_⟩, by omega, ⟨rfl, rfl, rfl, rfl, rfl, rfl, trivial⟩, rfl⟩
          rcases Nat.lt_or_ge j i with h | h
          · exact hj j h
          · rw [show j = i by omega]; exact hb
        · refine Has.intro (Has.intro (Has.intro (Has.intro (no fun h => hb ?_))))
          exact (h _ hk2).1 i hi8
      · have : i = 8 := by omega
        subst this
        refine Has.intro ?_
        refine needK_has rfl ?_
        refine hgetK_has _ rfl ?_
        refine getK_has rfl ?_
        refine callPK_dec (count_ok _) (fun hb => ?_) (fun hb => ?_)
        · refine eqK_has_eq _ (i64_succ (by omega)) ?_
          refine Has.intro ⟨1 + 1, ⟨hk2, fun k' hk' => ?_⟩, by omega, ⟨rfl, rfl, rfl, trivial⟩, rfl⟩
          rcases Nat.lt_or_ge k' 1 with h | h
          · exact hr k' h
          · rw [show k' = 1 by omega]; exact ⟨fun i hi => hj i hi, hb⟩
        · exact Has.intro (Has.intro (Has.intro (no fun h => hb (h _ hk2).2)))
  · have : k = 2 := by omega
    subst this
    refine Has.intro (Has.intro (Has.intro (yes fun k hk => hr k hk)))
end Go.Proofs.Ytdbobcbjgacjpaa
