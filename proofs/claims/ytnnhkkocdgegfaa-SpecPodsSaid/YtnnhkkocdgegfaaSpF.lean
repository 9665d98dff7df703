/-
  Sums of vectors.
-/
import Derived.Test.YtnnhkkocdgegfaaSpE
set_option linter.all false
set_option linter.unusedVariables false
set_option linter.unusedSimpArgs false
set_option linter.unusedSectionVars false
namespace Go.Proofs.Ytnnhkkocdgegfaa
open Go Go.VM

def sumF (acc : Vc) : List Vc → Option Vc
  | [] => some acc
  | v :: l => match addV acc v with
    | some s => sumF s l
    | none => none
def sumV (l : List Vc) : Option Vc := sumF v0 l
theorem vc_len (v : Vc) : (vc v).length = 3 := rfl
theorem sumF_step {acc : Vc} {l : List Vc} {i : Nat} {v : Vc} (h : l[i]? = some v) : sumF acc (l.drop i) = match addV acc v with
    | some s => sumF s (l.drop (i + 1))
    | none => none := by rw [drop_of h]; rfl
theorem sumV_none {l : List Vc} {acc : Vc} {v : Vc} {i : Nat} (h : sumV l = sumF acc (l.drop i)) (hg : l[i]? = some v) (ha : addV acc v = none) : sumV l = none := by
  rw [h, sumF_step hg, ha]
theorem sumV_some {l : List Vc} {acc : Vc} {v s : Vc} {i : Nat} (h : sumV l = sumF acc (l.drop i)) (hg : l[i]? = some v) (ha : addV acc v = some s) : sumV l = sumF s (l.drop (i + 1)) := by
  rw [h, sumF_step hg, ha]
def zc3 : List PV := [.int .i64 0, .int .i64 0, .int .i64 0]
set_option maxHeartbeats 1000000 in
theorem sum_ok (x : Ext) (l : List Vc) (hl : l.length ≤ maxLen) : EP (EE env) 38 [.sl x l.length (flat vc l)] = some (pairV (sumV l)) := by
  rw [maxLen_eq] at hl
  refine Has.eq (EP_has ?_)
  refine loopK_has ?_
  refine iterE_loop (σ := Nat × Vc × Heap) (fun s => l.length - s.1) (fun s => [(2, .ptr 0 0), (4, .ptr 1 0), (9, .pv (.sl x l.length (flat vc l))), (10, .pv (.int .i64 l.length)), (11, .pv (.int .i64 s.1))]) (fun s => s.2.2) (fun s => s.1 ≤ l.length ∧ sumV l = sumF s.2.1 (l.drop s.1) ∧ hget s.2.2 0 = z3 ∧ hget s.2.2 1 = .pcells (vc s.2.1)) (fun ⟨i, acc, G⟩ ⟨hi, he, h0, h1⟩ r => ?_) (0, v0, [z3, z3]) ⟨Nat.zero_le _, rfl, rfl, rfl⟩ ⟨rfl, rfl, rfl, rfl, rfl, trivial⟩ rfl
  dsimp only at hi he h0 h1 ⊢
  refine boolK_dec (fun hc => ?_) (fun hc => ?_)
  · have hlt : i < l.length := by omega
    obtain ⟨v, hcg⟩ : ∃ c, l[i]? = some c := ⟨_, List.getElem?_eq_getElem hlt⟩
    obtain ⟨g1, g2⟩ := flat_get vc_len hcg
    refine needK_has (by (first | rfl | (simp; done) | (simp; omega))) ?_
    refine secK_has g1 g2 ?_
    refine hgetK_last ?_
    refine needK_has rfl ?_
    refine eqK_has_eq (vc v) rfl ?_
    have h0 := keep2 (.pcells ([PV.int IntKind.i64 0, PV.int IntKind.i64 0, PV.int IntKind.i64 0])) (.pcells (vc v)) h0 ((by intro h; cases h))
    have h1 := keep2 (.pcells ([PV.int IntKind.i64 0, PV.int IntKind.i64 0, PV.int IntKind.i64 0])) (.pcells (vc v)) h1 ((by intro h; cases h))
    have h6 := hget_hset_same (H := G ++ [HObj.pcells ([PV.int IntKind.i64 0, PV.int IntKind.i64 0, PV.int IntKind.i64 0])]) (id := G.length) (.pcells (vc v)) (by simp)
    refine hgetK_has _ h1 ?_
    refine secK_has (v := vc acc) rfl (Nat.le_refl _) ?_
    refine hgetK_has _ h6 ?_
    refine secK_has (v := vc v) rfl (Nat.le_refl _) ?_
    generalize hset (G ++ [HObj.pcells ([PV.int IntKind.i64 0, PV.int IntKind.i64 0, PV.int IntKind.i64 0])]) G.length (.pcells (vc v)) = G at *
    refine callPK_has (add2_ok acc v) ?_
    cases ha : addV acc v with
    | some s =>
      refine hgetK_last ?_
      refine needK_has rfl ?_
      refine eqK_has_eq (vc s) rfl ?_
      have h0 := keep2 (.pcells ([PV.int IntKind.i64 0, PV.int IntKind.i64 0, PV.int IntKind.i64 0])) (.pcells (vc s)) h0 ((by intro h; cases h))
      have h1 := keep2 (.pcells ([PV.int IntKind.i64 0, PV.int IntKind.i64 0, PV.int IntKind.i64 0])) (.pcells (vc s)) h1 ((by intro h; cases h))
      have h6 := hget_hset_same (H := G ++ [HObj.pcells ([PV.int IntKind.i64 0, PV.int IntKind.i64 0, PV.int IntKind.i64 0])]) (id := G.length) (.pcells (vc s)) (by simp)
      refine hgetK_has _ h6 ?_
      refine secK_has (v := vc s) rfl (Nat.le_refl _) ?_
      refine hgetK_has _ h1 ?_
      refine needK_has rfl ?_
      refine eqK_has_eq (vc s) rfl ?_
      refine eqK_has_eq _ (i64_succ (by omega)) ?_
      exact Has.intro ⟨(i + 1, s, _), ⟨hlt, sumV_some he hcg ha, (hget_hset_ne _ _ (by decide)).trans h0, hget_hset_same _ (hget_lt h1 ((by intro h; cases h)))⟩, by dsimp only; omega, ⟨rfl, rfl, rfl, rfl, rfl, trivial⟩, rfl⟩
    | none =>
      refine hgetK_last ?_
      refine needK_has rfl ?_
      refine eqK_has_eq ([PV.int IntKind.i64 0, PV.int IntKind.i64 0, PV.int IntKind.i64 0]) rfl ?_
      have h0 := keep2 (.pcells ([PV.int IntKind.i64 0, PV.int IntKind.i64 0, PV.int IntKind.i64 0])) (.pcells ([PV.int IntKind.i64 0, PV.int IntKind.i64 0, PV.int IntKind.i64 0])) h0 ((by intro h; cases h))
      refine hgetK_has _ h0 ?_
      refine needK_has rfl ?_
      refine eqK_has_eq ([PV.int IntKind.i64 0, PV.int IntKind.i64 0, PV.int IntKind.i64 0]) rfl ?_
      refine Has.intro ?_
      refine hgetK_has (.pcells ([PV.int IntKind.i64 0, PV.int IntKind.i64 0, PV.int IntKind.i64 0])) (hget_hset_same _ (hget_lt h0 ((by intro h; cases h)))) ?_
      refine secK_has (v := ([PV.int IntKind.i64 0, PV.int IntKind.i64 0, PV.int IntKind.i64 0])) rfl (Nat.le_refl _) ?_
      refine Has.intro (Has.intro ?_)
      rw [sumV_none he hcg ha]; rfl
  · have : i = l.length := by omega
    subst this
    rw [List.drop_length] at he
    refine Has.intro ?_
    refine hgetK_has _ h1 ?_
    refine secK_has (v := vc acc) rfl (Nat.le_refl _) ?_
    refine hgetK_has _ h0 ?_
    refine needK_has rfl ?_
    refine eqK_has_eq (vc acc) rfl ?_
    refine hgetK_has (.pcells (vc acc)) (hget_hset_same _ (hget_lt h0 ((by intro h; cases h)))) ?_
    refine secK_has (v := vc acc) rfl (Nat.le_refl _) ?_
    refine Has.intro (Has.intro ?_)
    rw [he]; rfl
set_option maxHeartbeats 1000000 in
theorem rsum_ok (x : Ext) (l : List Vc) (hl : l.length ≤ maxLen) : EP (EE env) 34 [.sl x l.length (flat vc l)] = some (pairV (sumV l)) := by
  rw [maxLen_eq] at hl
  refine Has.eq (EP_has ?_)
  (repeat (first | refine hgetK_last ?_ | refine hgetK_set ?_ | refine needK_has rfl ?_ | refine getK_has rfl ?_ | refine secK_has rfl (of_decide_eq_true rfl) ?_ | refine eqK_has ?_))
  refine loopK_has ?_
  refine iterE_loop (σ := Nat × Option Vc × Heap) (fun s => l.length - s.1) (fun s => [(2, .ptr 0 0), (4, .ptr 1 0), (5, .pv (.bool s.2.1.isSome)), (9, .pv (.sl x l.length (flat vc l))), (10, .pv (.int .i64 l.length)), (11, .pv (.int .i64 s.1))]) (fun s => s.2.2) (fun s => s.1 ≤ l.length ∧ (sumV l = match s.2.1 with | some acc => sumF acc (l.drop s.1) | none => none) ∧ hget s.2.2 0 = z3 ∧ hget s.2.2 1 = .pcells (vc (s.2.1.getD v0))) (fun ⟨i, oa, G⟩ ⟨hi, he, h0, h1⟩ r => ?_) (0, some v0, [z3, z3]) ⟨Nat.zero_le _, rfl, rfl, rfl⟩ ⟨rfl, rfl, rfl, rfl, rfl, rfl, trivial⟩ rfl
  dsimp only at hi he h0 h1 ⊢
  refine boolK_dec (fun hc => ?_) (fun hc => ?_)
  · have hlt : i < l.length := by omega
    obtain ⟨v, hcg⟩ : ∃ c, l[i]? = some c := ⟨_, List.getElem?_eq_getElem hlt⟩
    obtain ⟨g1, g2⟩ := flat_get vc_len hcg
    refine needK_has (by (first | rfl | (simp; done) | (simp; omega))) ?_
    refine secK_has g1 g2 ?_
    refine hgetK_last ?_
    refine needK_has rfl ?_
    refine eqK_has_eq (vc v) rfl ?_
    have h0 := keep2 (.pcells ([PV.int IntKind.i64 0, PV.int IntKind.i64 0, PV.int IntKind.i64 0])) (.pcells (vc v)) h0 ((by intro h; cases h))
    have h1 := keep2 (.pcells ([PV.int IntKind.i64 0, PV.int IntKind.i64 0, PV.int IntKind.i64 0])) (.pcells (vc v)) h1 ((by intro h; cases h))
    have h6 := hget_hset_same (H := G ++ [HObj.pcells ([PV.int IntKind.i64 0, PV.int IntKind.i64 0, PV.int IntKind.i64 0])]) (id := G.length) (.pcells (vc v)) (by simp)
    cases oa with
    | some acc =>
      dsimp only at he
      refine hgetK_has _ h1 ?_
      refine secK_has (v := vc acc) rfl (Nat.le_refl _) ?_
      refine hgetK_has _ h6 ?_
      refine secK_has (v := vc v) rfl (Nat.le_refl _) ?_
      generalize hset (G ++ [HObj.pcells ([PV.int IntKind.i64 0, PV.int IntKind.i64 0, PV.int IntKind.i64 0])]) G.length (.pcells (vc v)) = G at *
      refine callPK_has (radd_ok acc v) ?_
      cases ha : addV acc v with
      | some s =>
        refine hgetK_has _ h1 ?_
        refine needK_has rfl ?_
        refine eqK_has_eq (vc s) rfl ?_
        refine eqK_has_eq _ (i64_succ (by omega)) ?_
        exact Has.intro ⟨(i + 1, some s, _), ⟨hlt, sumV_some he hcg ha, (hget_hset_ne _ _ (by decide)).trans h0, hget_hset_same _ (hget_lt h1 ((by intro h; cases h)))⟩, by dsimp only; omega, ⟨rfl, rfl, rfl, rfl, rfl, rfl, trivial⟩, rfl⟩
      | none =>
        refine hgetK_has _ h1 ?_
        refine needK_has rfl ?_
        refine eqK_has_eq (vc v0) rfl ?_
        refine eqK_has_eq _ (i64_succ (by omega)) ?_
        exact Has.intro ⟨(i + 1, none, _), ⟨hlt, sumV_none he hcg ha, (hget_hset_ne _ _ (by decide)).trans h0, hget_hset_same _ (hget_lt h1 ((by intro h; cases h)))⟩, by dsimp only; omega, ⟨rfl, rfl, rfl, rfl, rfl, rfl, trivial⟩, rfl⟩
    | none =>
      dsimp only at he
      refine eqK_has_eq _ (i64_succ (by omega)) ?_
      exact Has.intro ⟨(i + 1, none, _), ⟨hlt, he, h0, h1⟩, by dsimp only; omega, ⟨rfl, rfl, rfl, rfl, rfl, rfl, trivial⟩, rfl⟩
  · have : i = l.length := by omega
    subst this
    rw [List.drop_length] at he
    have he' : sumV l = oa := he.trans (by cases oa <;> rfl)
    refine Has.intro ?_
    refine hgetK_has _ h1 ?_
    refine secK_has (v := vc (oa.getD v0)) rfl (Nat.le_refl _) ?_
    refine hgetK_has _ h0 ?_
    refine needK_has rfl ?_
    refine eqK_has_eq (vc (oa.getD v0)) rfl ?_
    refine hgetK_has (.pcells (vc (oa.getD v0))) (hget_hset_same _ (hget_lt h0 ((by intro h; cases h)))) ?_
    refine secK_has (v := vc (oa.getD v0)) rfl (Nat.le_refl _) ?_
    refine Has.intro (Has.intro ?_)
    rw [he']
    cases oa <;> rfl
end Go.Proofs.Ytnnhkkocdgegfaa
