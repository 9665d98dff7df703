/-
  How much a pod has to be looked at.
-/
import Derived.Test.YtnnhkkocdgegfaaSpP
set_option linter.all false
set_option linter.unusedVariables false
set_option linter.unusedSimpArgs false
set_option linter.unusedSectionVars false
namespace Go.Proofs.Ytnnhkkocdgegfaa
open Go Go.VM

set_option maxHeartbeats 4000000 in
theorem great_ok (x : Ext) (p : Pd) (hs : small p) : ∃ n : Int, EP (EE env) 13 [.agg (pdc p x)] = some (.int .i64 n) ∧ (n ≤ 2000 → p.l.length ≤ 51) := by
  obtain ⟨hs1, hs2, hs3⟩ := hs
  have hl := hs2
  rw [maxLen_eq] at hl hs1
  have main : Has (EP (EE env) 13 [.agg (pdc p x)]) (fun v => ∃ n : Int, v = .int .i64 n ∧ (n ≤ 2000 → p.l.length ≤ 51)) := by
    refine EP_has ?_
    refine hgetK_has (.pcells (pdc p x)) rfl ?_
    refine getK_has rfl ?_
    refine hgetK_has (.pcells (pdc p x)) rfl ?_
    refine getK_has rfl ?_
    refine loopK_has ?_
    refine iterE_loop (σ := Nat × Int × Heap) (fun s => p.l.length - s.1) (fun s => [(3, .pv (.int .i64 s.2.1)), (10, .pv (.sl x p.l.length (flat ct p.l))), (11, .pv (.int .i64 p.l.length)), (12, .pv (.int .i64 s.1))]) (fun s => s.2.2)
      (fun s => s.1 ≤ p.l.length ∧ s.1 ≤ 51) (fun ⟨i, n, G⟩ ⟨hi, h51⟩ r => ?_) (0, _, _) ⟨Nat.zero_le _, Nat.zero_le _⟩ ⟨rfl, rfl, rfl, rfl, trivial⟩ rfl
    dsimp only at hi h51 ⊢
    refine boolK_dec (fun hc => ?_) (fun hc => ?_)
    · have hlt : i < p.l.length := by omega
      obtain ⟨c, hcg⟩ : ∃ c, p.l[i]? = some c := ⟨_, List.getElem?_eq_getElem hlt⟩
      obtain ⟨g1, g2⟩ := flat_get ct_len hcg
      refine needK_has (by (first | rfl | (simp; done) | (simp; omega))) ?_
      refine secK_has g1 g2 ?_
      refine hgetK_last ?_
      refine needK_has rfl ?_
      refine eqK_has_eq (ct c) rfl ?_
      have k5 := hget_hset_same (H := G ++ [HObj.pcells ([PV.str ⟨#[]⟩, PV.int IntKind.i64 0, PV.int IntKind.i64 0, PV.int IntKind.i64 0, PV.int IntKind.i64 0, PV.int IntKind.i64 0, PV.int IntKind.i64 0, PV.bool false, PV.bool false, PV.bool false])]) (id := G.length) (.pcells (ct c)) (by simp)
      generalize hset (G ++ [HObj.pcells ([PV.str ⟨#[]⟩, PV.int IntKind.i64 0, PV.int IntKind.i64 0, PV.int IntKind.i64 0, PV.int IntKind.i64 0, PV.int IntKind.i64 0, PV.int IntKind.i64 0, PV.bool false, PV.bool false, PV.bool false])]) G.length (.pcells (ct c)) = G at *
      refine boolK_dec (fun h => ?_) (fun h => ?_)
      · exact Has.intro (Has.intro (Has.intro ⟨5000, rfl, fun h => by omega⟩))
      · refine hgetK_has _ k5 ?_
        refine getK_has rfl ?_
        refine eqK_has ?_
        refine eqK_has ?_
        refine eqK_has ?_
        refine eqK_has_eq _ (i64_succ (by omega)) ?_
        exact Has.intro ⟨(i + 1, _, G), ⟨hlt, by dsimp only; omega⟩, (by dsimp only; omega), ⟨rfl, rfl, rfl, rfl, trivial⟩, rfl⟩
    · exact Has.intro (Has.intro (Has.intro ⟨_, rfl, fun _ => by omega⟩))
  obtain ⟨v, h1, n, h2, h3⟩ := main
  exact ⟨n, by rw [h1, h2], h3⟩
end Go.Proofs.Ytnnhkkocdgegfaa
