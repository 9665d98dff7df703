/-
  Requests, added up.
-/
import Derived.Test.YtnnhkkocdgegfaaSpO
set_option linter.all false
set_option linter.unusedVariables false
set_option linter.unusedSimpArgs false
set_option linter.unusedSectionVars false
namespace Go.Proofs.Ytnnhkkocdgegfaa
open Go Go.VM

set_option maxHeartbeats 4000000 in
theorem lsums_ok (x : Ext) (p : Pd) (hl : p.l.length ≤ 1000) : EP (EE env) 15 [.agg (pdc p x)] = some (.bool (sumV (rqs p.l)).isSome) := by
  refine Has.eq (EP_has ?_)
  refine hgetK_has (.pcells (pdc p x)) rfl ?_
  refine getK_has rfl ?_
  refine loopK_has ?_
  refine iterE_loop (σ := Nat × AV × Heap) (fun s => p.l.length - s.1) (fun s => [(3, s.2.1), (9, .pv (.sl x p.l.length (flat ct p.l))), (10, .pv (.int .i64 p.l.length)), (11, .pv (.int .i64 s.1))]) (fun s => s.2.2)
    (fun s => s.1 ≤ p.l.length ∧ AppV s.2.2 s.2.1 .nil 3 s.1 (flat vc ((rqs p.l).take s.1))) (fun ⟨i, v, G⟩ ⟨hi, hT⟩ r => ?_)
    (0, .pv (.sl .nil 0 []), _) ⟨Nat.zero_le _, AppV.new rfl⟩ ⟨rfl, rfl, rfl, rfl, trivial⟩ rfl
  dsimp only at hi hT ⊢
  refine boolK_dec (fun hc => ?_) (fun hc => ?_)
  · have hlt : i < p.l.length := by omega
    obtain ⟨c, hcg⟩ : ∃ c, p.l[i]? = some c := ⟨_, List.getElem?_eq_getElem hlt⟩
    obtain ⟨g1, g2⟩ := flat_get ct_len hcg
    refine needK_has (by (first | rfl | (simp; done) | (simp; omega))) ?_
    refine secK_has g1 g2 ?_
    refine hgetK_last ?_
    refine needK_has rfl ?_
    refine eqK_has_eq (ct c) rfl ?_
    have hT := AppV_put (AppV_grow hT [.pcells ([PV.str ⟨#[]⟩, PV.int IntKind.i64 0, PV.int IntKind.i64 0, PV.int IntKind.i64 0, PV.int IntKind.i64 0, PV.int IntKind.i64 0, PV.int IntKind.i64 0, PV.bool false, PV.bool false, PV.bool false])]) (.pcells (ct c)) (hget_append_same G _) ((fun _ _ h => by cases h))
    have k8 := hget_hset_same (H := G ++ [HObj.pcells ([PV.str ⟨#[]⟩, PV.int IntKind.i64 0, PV.int IntKind.i64 0, PV.int IntKind.i64 0, PV.int IntKind.i64 0, PV.int IntKind.i64 0, PV.int IntKind.i64 0, PV.bool false, PV.bool false, PV.bool false])]) (id := G.length) (.pcells (ct c)) (by simp)
    generalize hset (G ++ [HObj.pcells ([PV.str ⟨#[]⟩, PV.int IntKind.i64 0, PV.int IntKind.i64 0, PV.int IntKind.i64 0, PV.int IntKind.i64 0, PV.int IntKind.i64 0, PV.int IntKind.i64 0, PV.bool false, PV.bool false, PV.bool false])]) G.length (.pcells (ct c)) = G at *
    rcases AppV.forms hT with ⟨hz, rfl⟩ | ⟨t, rfl⟩
    all_goals
      refine hgetK_has _ k8 ?_
      refine secK_has (v := vc c.rq) rfl (of_decide_eq_true rfl) ?_
      refine app_has (m := 1) (new := vc c.rq) hT rfl (by show (i + 1) * 24 ≤ 140737488355328; omega) (fun v' G1 hv' hf ht => ?_)
      obtain ⟨tv, rfl⟩ := AppV.form1 hv'
      refine eqK_has_eq _ (i64_succ (by omega)) ?_
      refine Has.intro ⟨(i + 1, _, G1), ⟨hlt, ?_⟩, (by dsimp only; omega), ⟨rfl, rfl, rfl, rfl, trivial⟩, rfl⟩
      dsimp only
      unfold rqs at hv' ⊢
      rw [map_take hcg, ← flat_snoc]; exact hv'
  · have : i = p.l.length := by omega
    subst this
    refine Has.intro ?_
    have s1 : ∀ x', EP (EE env) 34 [.sl x' p.l.length (flat vc ((rqs p.l).take p.l.length))] = some (pairV (sumV (rqs p.l))) := fun x' => by
      have e : (rqs p.l).length = p.l.length := by simp [rqs]
      have := rsum_ok x' (rqs p.l) (by rw [maxLen_eq]; omega)
      rw [← e, List.take_length]; exact this
    have s10 : p.l.length = 0 → EP (EE env) 34 [.sl .nil 0 []] = some (pairV (sumV (rqs p.l))) := fun h => by have := s1 .nil; rw [h] at this; exact this
    generalize sumV (rqs p.l) = o1 at *
    have hpa : ∀ o, pairV o = .tup [.agg (vc (o.getD v0)), .bool o.isSome] := fun o => by cases o <;> rfl
    rw [hpa] at s1 s10
    rcases AppV.forms hT with ⟨hz, rfl⟩ | ⟨t, rfl⟩
    all_goals
      first
        | refine callPK_has (s10 hz) ?_
        | refine callPK_has (s1 .nn) ?_
      refine hgetK_last ?_
      refine needK_has rfl ?_
      refine eqK_has_eq (vc (o1.getD v0)) rfl ?_
      exact Has.intro (Has.intro rfl)
set_option maxHeartbeats 4000000 in
theorem req_ok (x : Ext) (p : Pd) (hl : p.l.length ≤ 1000) : EP (EE env) 22 [.agg (pdc p x)] = some (.agg (vc ((sumV (rqs p.l)).getD v0))) := by
  refine Has.eq (EP_has ?_)
  refine hgetK_has (.pcells (pdc p x)) rfl ?_
  refine getK_has rfl ?_
  refine loopK_has ?_
  refine iterE_loop (σ := Nat × AV × Heap) (fun s => p.l.length - s.1) (fun s => [(2, .ptr 1 0), (3, s.2.1), (9, .pv (.sl x p.l.length (flat ct p.l))), (10, .pv (.int .i64 p.l.length)), (11, .pv (.int .i64 s.1))]) (fun s => s.2.2)
    (fun s => s.1 ≤ p.l.length ∧ AppV s.2.2 s.2.1 .nil 3 s.1 (flat vc ((rqs p.l).take s.1)) ∧ hget s.2.2 1 = z3) (fun ⟨i, v, G⟩ ⟨hi, hT, k2⟩ r => ?_)
    (0, .pv (.sl .nil 0 []), _) ⟨Nat.zero_le _, AppV.new rfl, rfl⟩ ⟨rfl, rfl, rfl, rfl, rfl, trivial⟩ rfl
  dsimp only at hi hT k2 ⊢
  refine boolK_dec (fun hc => ?_) (fun hc => ?_)
  · have hlt : i < p.l.length := by omega
    obtain ⟨c, hcg⟩ : ∃ c, p.l[i]? = some c := ⟨_, List.getElem?_eq_getElem hlt⟩
    obtain ⟨g1, g2⟩ := flat_get ct_len hcg
    refine needK_has (by (first | rfl | (simp; done) | (simp; omega))) ?_
    refine secK_has g1 g2 ?_
    refine hgetK_last ?_
    refine needK_has rfl ?_
    refine eqK_has_eq (ct c) rfl ?_
    have hT := AppV_put (AppV_grow hT [.pcells ([PV.str ⟨#[]⟩, PV.int IntKind.i64 0, PV.int IntKind.i64 0, PV.int IntKind.i64 0, PV.int IntKind.i64 0, PV.int IntKind.i64 0, PV.int IntKind.i64 0, PV.bool false, PV.bool false, PV.bool false])]) (.pcells (ct c)) (hget_append_same G _) ((fun _ _ h => by cases h))
    have k2 := keep2 (.pcells ([PV.str ⟨#[]⟩, PV.int IntKind.i64 0, PV.int IntKind.i64 0, PV.int IntKind.i64 0, PV.int IntKind.i64 0, PV.int IntKind.i64 0, PV.int IntKind.i64 0, PV.bool false, PV.bool false, PV.bool false])) (.pcells (ct c)) k2 ((by intro h; cases h))
    have k8 := hget_hset_same (H := G ++ [HObj.pcells ([PV.str ⟨#[]⟩, PV.int IntKind.i64 0, PV.int IntKind.i64 0, PV.int IntKind.i64 0, PV.int IntKind.i64 0, PV.int IntKind.i64 0, PV.int IntKind.i64 0, PV.bool false, PV.bool false, PV.bool false])]) (id := G.length) (.pcells (ct c)) (by simp)
    generalize hset (G ++ [HObj.pcells ([PV.str ⟨#[]⟩, PV.int IntKind.i64 0, PV.int IntKind.i64 0, PV.int IntKind.i64 0, PV.int IntKind.i64 0, PV.int IntKind.i64 0, PV.int IntKind.i64 0, PV.bool false, PV.bool false, PV.bool false])]) G.length (.pcells (ct c)) = G at *
    rcases AppV.forms hT with ⟨hz, rfl⟩ | ⟨t, rfl⟩
    all_goals
      refine hgetK_has _ k8 ?_
      refine secK_has (v := vc c.rq) rfl (of_decide_eq_true rfl) ?_
      refine app_has (m := 1) (new := vc c.rq) hT rfl (by show (i + 1) * 24 ≤ 140737488355328; omega) (fun v' G1 hv' hf ht => ?_)
      obtain ⟨tv, rfl⟩ := AppV.form1 hv'
      refine eqK_has_eq _ (i64_succ (by omega)) ?_
      refine Has.intro ⟨(i + 1, _, G1), ⟨hlt, ?_, (Kp.fr hT hf).2 _ _ k2 ((by intro h; cases h)) ((fun _ _ h => by cases h))⟩, (by dsimp only; omega), ⟨rfl, rfl, rfl, rfl, rfl, trivial⟩, rfl⟩
      dsimp only
      unfold rqs at hv' ⊢
      rw [map_take hcg, ← flat_snoc]; exact hv'
  · have : i = p.l.length := by omega
    subst this
    refine Has.intro ?_
    have s1 : ∀ x', EP (EE env) 38 [.sl x' p.l.length (flat vc ((rqs p.l).take p.l.length))] = some (pairV (sumV (rqs p.l))) := fun x' => by
      have e : (rqs p.l).length = p.l.length := by simp [rqs]
      have := sum_ok x' (rqs p.l) (by rw [maxLen_eq]; omega)
      rw [← e, List.take_length]; exact this
    have s10 : p.l.length = 0 → EP (EE env) 38 [.sl .nil 0 []] = some (pairV (sumV (rqs p.l))) := fun h => by have := s1 .nil; rw [h] at this; exact this
    generalize sumV (rqs p.l) = o1 at *
    have hpa : ∀ o, pairV o = .tup [.agg (vc (o.getD v0)), .bool o.isSome] := fun o => by cases o <;> rfl
    rw [hpa] at s1 s10
    rcases AppV.forms hT with ⟨hz, rfl⟩ | ⟨t, rfl⟩
    all_goals
      first
        | refine callPK_has (s10 hz) ?_
        | refine callPK_has (s1 .nn) ?_
      refine hgetK_last ?_
      refine needK_has rfl ?_
      refine eqK_has_eq (vc (o1.getD v0)) rfl ?_
      have k6 := hget_hset_same (H := G ++ [HObj.pcells ([PV.int IntKind.i64 0, PV.int IntKind.i64 0, PV.int IntKind.i64 0])]) (id := G.length) (.pcells (vc (o1.getD v0))) (by simp)
      have k2 := keep2 (.pcells ([PV.int IntKind.i64 0, PV.int IntKind.i64 0, PV.int IntKind.i64 0])) (.pcells (vc (o1.getD v0))) k2 ((by intro h; cases h))
      refine hgetK_has _ k6 ?_
      refine secK_has (v := vc (o1.getD v0)) rfl (of_decide_eq_true rfl) ?_
      refine hgetK_has _ k2 ?_
      refine needK_has rfl ?_
      refine eqK_has_eq (vc (o1.getD v0)) rfl ?_
      refine hgetK_has _ (hget_hset_same _ (hget_lt k2 ((by intro h; cases h)))) ?_
      refine secK_has (v := vc (o1.getD v0)) rfl (of_decide_eq_true rfl) ?_
      exact Has.intro (Has.intro rfl)
end Go.Proofs.Ytnnhkkocdgegfaa
