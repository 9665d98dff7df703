/-
  What changed: the document's.
-/
import Derived.Test.YtnnhkkocdgegfaaSpS
set_option linter.all false
set_option linter.unusedVariables false
set_option linter.unusedSimpArgs false
set_option linter.unusedSectionVars false
namespace Go.Proofs.Ytnnhkkocdgegfaa
open Go Go.VM

theorem bne_t {a b : Int} (h : a ≠ b) (w : Bool) : true = ((a != b) || w) := by rw [show (a != b) = true by simpa using h]; rfl
theorem bne_f {a b : Int} (h : a = b) (w : Bool) : w = ((a != b) || w) := by rw [show (a != b) = false by simpa using h]; rfl
set_option maxRecDepth 20000 in
set_option maxHeartbeats 4000000 in
theorem rchanged_ok (x y : Ext) (a b : Pd) (hl : a.l.length ≤ 1000) (hlb : b.l.length ≤ 1000) : EP (EE env) 26 [.agg (pdc a x), .agg (pdc b y)] = some (psl .nil a.l.length (flat b3 (a.l.map (chg b.l)))) := by
  refine Has.eq (EP_has ?_)
  refine hgetK_has _ rfl ?_
  refine getK_has rfl ?_
  refine loopK_has ?_
  refine iterE_loop (σ := Nat × AV × Heap) (fun s => a.l.length - s.1) (fun s => [(3, .ptr 1 0), (5, s.2.1), (12, .pv (.sl x a.l.length (flat ct a.l))), (13, .pv (.int .i64 a.l.length)), (14, .pv (.int .i64 s.1))]) (fun s => s.2.2)
    (fun s => s.1 ≤ a.l.length ∧ AppV s.2.2 s.2.1 .nil 3 s.1 (flat b3 ((a.l.map (chg b.l)).take s.1)) ∧ hget s.2.2 1 = .pcells (pdc b y)) (fun ⟨i, v, G⟩ ⟨hi, hA, k1⟩ r => ?_) (0, _, _) ⟨Nat.zero_le _, AppV.new rfl, rfl⟩ ⟨rfl, rfl, rfl, rfl, rfl, trivial⟩ rfl
  dsimp only at hi hA k1 ⊢
  refine boolK_dec (fun hc => ?_) (fun hc => ?_)
  · have hlt : i < a.l.length := by omega
    obtain ⟨c, hcg⟩ : ∃ c, a.l[i]? = some c := ⟨_, List.getElem?_eq_getElem hlt⟩
    obtain ⟨g1, g2⟩ := flat_get ct_len hcg
    have hmt := map_take (f := chg b.l) hcg
    refine needK_has (by (first | rfl | (simp; done) | (simp; omega))) ?_
    refine secK_has g1 g2 ?_
    refine hgetK_last ?_
    refine needK_has rfl ?_
    refine eqK_has_eq (ct c) rfl ?_
    have k7 := hget_hset_same (H := G ++ [HObj.pcells ([PV.str ⟨#[]⟩, PV.int IntKind.i64 0, PV.int IntKind.i64 0, PV.int IntKind.i64 0, PV.int IntKind.i64 0, PV.int IntKind.i64 0, PV.int IntKind.i64 0, PV.bool false, PV.bool false, PV.bool false])]) (id := G.length) (.pcells (ct c)) (by simp)
    have k1 := keep2 (.pcells ([PV.str ⟨#[]⟩, PV.int IntKind.i64 0, PV.int IntKind.i64 0, PV.int IntKind.i64 0, PV.int IntKind.i64 0, PV.int IntKind.i64 0, PV.int IntKind.i64 0, PV.bool false, PV.bool false, PV.bool false])) (.pcells (ct c)) k1 ((by intro h; cases h))
    have hA := AppV_put (AppV_grow hA [HObj.pcells ([PV.str ⟨#[]⟩, PV.int IntKind.i64 0, PV.int IntKind.i64 0, PV.int IntKind.i64 0, PV.int IntKind.i64 0, PV.int IntKind.i64 0, PV.int IntKind.i64 0, PV.bool false, PV.bool false, PV.bool false])]) (.pcells (ct c)) (hget_append_same G _) ((fun _ _ h => by cases h))
    have hn7 : G.length < (hset (G ++ [HObj.pcells ([PV.str ⟨#[]⟩, PV.int IntKind.i64 0, PV.int IntKind.i64 0, PV.int IntKind.i64 0, PV.int IntKind.i64 0, PV.int IntKind.i64 0, PV.int IntKind.i64 0, PV.bool false, PV.bool false, PV.bool false])]) G.length (.pcells (ct c))).length := hget_lt k7 ((by intro h; cases h))
    generalize hset (G ++ [HObj.pcells ([PV.str ⟨#[]⟩, PV.int IntKind.i64 0, PV.int IntKind.i64 0, PV.int IntKind.i64 0, PV.int IntKind.i64 0, PV.int IntKind.i64 0, PV.int IntKind.i64 0, PV.bool false, PV.bool false, PV.bool false])]) G.length (.pcells (ct c)) = G1 at *
    generalize G.length = n7 at *
    have k8 := hget_append_same G1 (HObj.pcells ([PV.bool false, PV.bool false, PV.bool false]))
    have k7 := (hget_app [HObj.pcells ([PV.bool false, PV.bool false, PV.bool false])] (hget_lt k7 ((by intro h; cases h)))).trans k7
    have k1 := (hget_app [HObj.pcells ([PV.bool false, PV.bool false, PV.bool false])] (hget_lt k1 ((by intro h; cases h)))).trans k1
    have hA := AppV_grow hA [HObj.pcells ([PV.bool false, PV.bool false, PV.bool false])]
    refine hgetK_has _ k1 ?_
    refine secK_has (v := pdc b y) rfl (of_decide_eq_true rfl) ?_
    refine hgetK_has _ k7 ?_
    refine getK_has rfl ?_
    refine callPK_has (rfind_ok y b (by rw [maxLen_eq]; omega) c.name) ?_
    generalize hG2 : G1 ++ [HObj.pcells ([PV.bool false, PV.bool false, PV.bool false])] = G2 at *
    generalize G1.length = n8 at *
    refine boolK_dec (fun hf => ?_) (fun hf => ?_)
    · obtain ⟨k, d, h1, h2, h3⟩ := findI_ge hf
      have hch := chg_some h1 h2
      rw [h1]
      obtain ⟨m1, m2⟩ := flat_get ct_len h2
      have hkl : k < b.l.length := (List.getElem?_eq_some_iff.1 h2).1
      refine hgetK_has _ k1 ?_
      refine getK_has rfl ?_
      refine needK_has (by (first | rfl | (simp; done) | (simp; omega))) ?_
      refine secK_has m1 m2 ?_
      refine hgetK_last ?_
      refine needK_has rfl ?_
      refine eqK_has_eq (ct d) rfl ?_
      have hn10 := hget_lt k8 ((by intro h; cases h))
      have k10 := hget_hset_same (H := G2 ++ [HObj.pcells ([PV.str ⟨#[]⟩, PV.int IntKind.i64 0, PV.int IntKind.i64 0, PV.int IntKind.i64 0, PV.int IntKind.i64 0, PV.int IntKind.i64 0, PV.int IntKind.i64 0, PV.bool false, PV.bool false, PV.bool false])]) (id := G2.length) (.pcells (ct d)) (by simp)
      have k1 := keep2 (.pcells ([PV.str ⟨#[]⟩, PV.int IntKind.i64 0, PV.int IntKind.i64 0, PV.int IntKind.i64 0, PV.int IntKind.i64 0, PV.int IntKind.i64 0, PV.int IntKind.i64 0, PV.bool false, PV.bool false, PV.bool false])) (.pcells (ct d)) k1 ((by intro h; cases h))
      have k7 := keep2 (.pcells ([PV.str ⟨#[]⟩, PV.int IntKind.i64 0, PV.int IntKind.i64 0, PV.int IntKind.i64 0, PV.int IntKind.i64 0, PV.int IntKind.i64 0, PV.int IntKind.i64 0, PV.bool false, PV.bool false, PV.bool false])) (.pcells (ct d)) k7 ((by intro h; cases h))
      have k8 := keep2 (.pcells ([PV.str ⟨#[]⟩, PV.int IntKind.i64 0, PV.int IntKind.i64 0, PV.int IntKind.i64 0, PV.int IntKind.i64 0, PV.int IntKind.i64 0, PV.int IntKind.i64 0, PV.bool false, PV.bool false, PV.bool false])) (.pcells (ct d)) k8 ((by intro h; cases h))
      have hA := AppV_put (AppV_grow hA [HObj.pcells ([PV.str ⟨#[]⟩, PV.int IntKind.i64 0, PV.int IntKind.i64 0, PV.int IntKind.i64 0, PV.int IntKind.i64 0, PV.int IntKind.i64 0, PV.int IntKind.i64 0, PV.bool false, PV.bool false, PV.bool false])]) (.pcells (ct d)) (hget_append_same G2 _) ((fun _ _ h => by cases h))
      generalize hset (G2 ++ [HObj.pcells ([PV.str ⟨#[]⟩, PV.int IntKind.i64 0, PV.int IntKind.i64 0, PV.int IntKind.i64 0, PV.int IntKind.i64 0, PV.int IntKind.i64 0, PV.int IntKind.i64 0, PV.bool false, PV.bool false, PV.bool false])]) G2.length (.pcells (ct d)) = G3 at *
      generalize G2.length = n10 at *
      have q1 : 1 ≠ n8 := fun e => by rw [← e, k1] at k8; injection k8 with k8; injection k8 with k8; cases k8
      have q7 : n7 ≠ n8 := fun e => by rw [← e, k7] at k8; injection k8 with k8; injection k8 with k8; cases k8
      have q10 : n10 ≠ n8 := fun e => by rw [← e, k10] at k8; injection k8 with k8; injection k8 with k8; cases k8
      refine hgetK_has _ k7 ?_
      refine getK_has rfl ?_
      refine hgetK_has _ k10 ?_
      refine getK_has rfl ?_
      refine boolK_bne (fun hu0 => ?_) (fun hu0 => ?_)
      all_goals
       try
        refine hgetK_has _ k7 ?_
        refine getK_has rfl ?_
        refine hgetK_has _ k10 ?_
        refine getK_has rfl ?_
        refine boolK_has_keep ?_
      all_goals
       refine needK_has rfl ?_
       refine hgetK_has _ k8 ?_
       refine needK_has rfl ?_
       refine eqK_has_eq [.bool (chq c d).x, .bool false, .bool false] (by first | exact congrArg (fun w => [PV.bool w, PV.bool false, PV.bool false]) (bne_t hu0 _) | exact congrArg (fun w => [PV.bool w, PV.bool false, PV.bool false]) (bne_f hu0 _)) ?_
       have hA := AppV_put hA (.pcells [.bool (chq c d).x, .bool false, .bool false]) k8 ((fun _ _ h => by cases h))
       have k1 := (hget_hset_ne G3 (.pcells [.bool (chq c d).x, .bool false, .bool false]) q1).trans k1
       have k7 := (hget_hset_ne G3 (.pcells [.bool (chq c d).x, .bool false, .bool false]) q7).trans k7
       have k10 := (hget_hset_ne G3 (.pcells [.bool (chq c d).x, .bool false, .bool false]) q10).trans k10
       have k8 := hget_hset_same (H := G3) (id := n8) (.pcells [.bool (chq c d).x, .bool false, .bool false]) (hget_lt k8 ((by intro h; cases h)))
       generalize hset G3 n8 (.pcells [.bool (chq c d).x, .bool false, .bool false]) = G4 at *
      all_goals
       refine hgetK_has _ k7 ?_
       refine getK_has rfl ?_
       refine hgetK_has _ k10 ?_
       refine getK_has rfl ?_
      all_goals
       refine boolK_bne (fun hu1 => ?_) (fun hu1 => ?_)
      all_goals
       try
        refine hgetK_has _ k7 ?_
        refine getK_has rfl ?_
        refine hgetK_has _ k10 ?_
        refine getK_has rfl ?_
        refine boolK_has_keep ?_
      all_goals
       refine needK_has rfl ?_
       refine hgetK_has _ k8 ?_
       refine needK_has rfl ?_
       refine eqK_has_eq [.bool (chq c d).x, .bool (chq c d).y, .bool false] (by first | exact congrArg (fun w => [PV.bool (chq c d).x, PV.bool w, PV.bool false]) (bne_t hu1 _) | exact congrArg (fun w => [PV.bool (chq c d).x, PV.bool w, PV.bool false]) (bne_f hu1 _)) ?_
       have hA := AppV_put hA (.pcells [.bool (chq c d).x, .bool (chq c d).y, .bool false]) k8 ((fun _ _ h => by cases h))
       have k1 := (hget_hset_ne G4 (.pcells [.bool (chq c d).x, .bool (chq c d).y, .bool false]) q1).trans k1
       have k7 := (hget_hset_ne G4 (.pcells [.bool (chq c d).x, .bool (chq c d).y, .bool false]) q7).trans k7
       have k10 := (hget_hset_ne G4 (.pcells [.bool (chq c d).x, .bool (chq c d).y, .bool false]) q10).trans k10
       have k8 := hget_hset_same (H := G4) (id := n8) (.pcells [.bool (chq c d).x, .bool (chq c d).y, .bool false]) (hget_lt k8 ((by intro h; cases h)))
       generalize hset G4 n8 (.pcells [.bool (chq c d).x, .bool (chq c d).y, .bool false]) = G5 at *
      all_goals
       refine hgetK_has _ k7 ?_
       refine getK_has rfl ?_
       refine hgetK_has _ k10 ?_
       refine getK_has rfl ?_
      all_goals
       refine boolK_bne (fun hu2 => ?_) (fun hu2 => ?_)
      all_goals
       try
        refine hgetK_has _ k7 ?_
        refine getK_has rfl ?_
        refine hgetK_has _ k10 ?_
        refine getK_has rfl ?_
        refine boolK_has_keep ?_
      all_goals
       refine needK_has rfl ?_
       refine hgetK_has _ k8 ?_
       refine needK_has rfl ?_
       refine eqK_has_eq [.bool (chq c d).x, .bool (chq c d).y, .bool (chq c d).z] (by first | exact congrArg (fun w => [PV.bool (chq c d).x, PV.bool (chq c d).y, PV.bool w]) (bne_t hu2 _) | exact congrArg (fun w => [PV.bool (chq c d).x, PV.bool (chq c d).y, PV.bool w]) (bne_f hu2 _)) ?_
       have hA := AppV_put hA (.pcells [.bool (chq c d).x, .bool (chq c d).y, .bool (chq c d).z]) k8 ((fun _ _ h => by cases h))
       have k1 := (hget_hset_ne G5 (.pcells [.bool (chq c d).x, .bool (chq c d).y, .bool (chq c d).z]) q1).trans k1
       have k7 := (hget_hset_ne G5 (.pcells [.bool (chq c d).x, .bool (chq c d).y, .bool (chq c d).z]) q7).trans k7
       have k10 := (hget_hset_ne G5 (.pcells [.bool (chq c d).x, .bool (chq c d).y, .bool (chq c d).z]) q10).trans k10
       have k8 := hget_hset_same (H := G5) (id := n8) (.pcells [.bool (chq c d).x, .bool (chq c d).y, .bool (chq c d).z]) (hget_lt k8 ((by intro h; cases h)))
       generalize hset G5 n8 (.pcells [.bool (chq c d).x, .bool (chq c d).y, .bool (chq c d).z]) = G6 at *
      all_goals
       rcases AppV.forms hA with ⟨hz, rfl⟩ | ⟨t, rfl⟩
      all_goals
       refine hgetK_has _ k8 ?_
       refine secK_has (v := b3 (chq c d)) rfl (of_decide_eq_true rfl) ?_
       refine app_has (m := 1) (new := b3 (chq c d)) hA rfl (by show (i + 1) * 3 ≤ 140737488355328; omega) (fun v' G7 hv' hfr ht => ?_)
       have k1 := Fr.obj hA hfr k1 ((by intro h; cases h)) ((fun _ _ h => by cases h))
       obtain ⟨tv, rfl⟩ := AppV.form1 hv'
       refine eqK_has_eq _ (i64_succ (by omega)) ?_
       refine Has.intro ⟨(i + 1, _, G7), ⟨hlt, ?_, k1⟩, (by dsimp only; omega), ⟨rfl, rfl, rfl, rfl, rfl, trivial⟩, rfl⟩
       dsimp only
       rw [hmt, ← flat_snoc, hch]
       exact hv'
    · rcases AppV.forms hA with ⟨hz, rfl⟩ | ⟨t, rfl⟩
      all_goals
       refine hgetK_has _ k8 ?_
       refine secK_has (v := b3 fff) rfl (of_decide_eq_true rfl) ?_
       refine app_has (m := 1) (new := b3 fff) hA rfl (by show (i + 1) * 3 ≤ 140737488355328; omega) (fun v' G7 hv' hfr ht => ?_)
       have k1 := Fr.obj hA hfr k1 ((by intro h; cases h)) ((fun _ _ h => by cases h))
       obtain ⟨tv, rfl⟩ := AppV.form1 hv'
       refine eqK_has_eq _ (i64_succ (by omega)) ?_
       refine Has.intro ⟨(i + 1, _, G7), ⟨hlt, ?_, k1⟩, (by dsimp only; omega), ⟨rfl, rfl, rfl, rfl, rfl, trivial⟩, rfl⟩
       dsimp only
       rw [hmt, ← flat_snoc, chg_none hf]
       exact hv'
  · have : i = a.l.length := by omega
    subst this
    rw [List.take_of_length_le (by simp)] at hA
    have ho := AppV.out hA
    rcases AppV.forms hA with ⟨hz, rfl⟩ | ⟨t, rfl⟩
    · exact Has.intro (Has.intro (Has.of_eq ho rfl))
    · exact Has.intro (Has.intro (Has.of_eq ho rfl))
end Go.Proofs.Ytnnhkkocdgegfaa
