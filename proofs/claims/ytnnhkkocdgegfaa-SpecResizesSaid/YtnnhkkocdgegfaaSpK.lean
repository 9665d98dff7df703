/-
  Classes of pods: the document's.
-/
import Derived.Test.YtnnhkkocdgegfaaSpJ
set_option linter.all false
set_option linter.unusedVariables false
set_option linter.unusedSimpArgs false
set_option linter.unusedSectionVars false
namespace Go.Proofs.Ytnnhkkocdgegfaa
open Go Go.VM

set_option maxRecDepth 20000 in
set_option maxHeartbeats 4000000 in
theorem rclass_plain (x : Ext) (p : Pd) (hl : p.l.length ≤ maxLen) (H : Heap) :
    Has (EE env (.fn 21) [.pv (.agg (pdc p x))] H) (fun y => y.1 = .pv (.int .i64 (classI p.l)) ∧ Kp H y.2) := by
  rw [maxLen_eq] at hl
  refine EE_has ?_
  refine hgetK_has (.pcells (pdc p x)) (hget_append_same H _) ?_
  refine getK_has rfl ?_
  refine loopK_has ?_
  refine iterE_loop (σ := Nat × Heap) (fun s => p.l.length - s.1) (fun s => [(1, .ptr H.length 0), (3, .pv (.bool (dZ (p.l.take s.1)))), (9, .pv (.sl x p.l.length (flat ct p.l))), (10, .pv (.int .i64 p.l.length)), (11, .pv (.int .i64 s.1))]) (fun s => s.2)
    (fun s => s.1 ≤ p.l.length ∧ Kp H s.2 ∧ hget s.2 H.length = .pcells (pdc p x)) (fun ⟨i, G⟩ ⟨hi, hK, k1⟩ r => ?_) (0, _) ⟨Nat.zero_le _, Kp.app H _, hget_append_same H _⟩ ⟨rfl, rfl, rfl, rfl, rfl, trivial⟩ rfl
  dsimp only at hi hK k1 ⊢
  refine boolK_dec (fun hc => ?_) (fun hc => ?_)
  · have hlt : i < p.l.length := by omega
    obtain ⟨c, hcg⟩ : ∃ c, p.l[i]? = some c := ⟨_, List.getElem?_eq_getElem hlt⟩
    obtain ⟨g1, g2⟩ := flat_get ct_len hcg
    have sZ := dZ_step hcg
    refine needK_has (by (first | rfl | (simp; done) | (simp; omega))) ?_
    refine secK_has g1 g2 ?_
    refine hgetK_last ?_
    refine needK_has rfl ?_
    refine eqK_has_eq (ct c) rfl ?_
    have k5 := hget_hset_same (H := G ++ [HObj.pcells ([PV.str ⟨#[]⟩, PV.int IntKind.i64 0, PV.int IntKind.i64 0, PV.int IntKind.i64 0, PV.int IntKind.i64 0, PV.int IntKind.i64 0, PV.int IntKind.i64 0, PV.bool false, PV.bool false, PV.bool false])]) (id := G.length) (.pcells (ct c)) (by simp)
    have k1 := keep2 (.pcells ([PV.str ⟨#[]⟩, PV.int IntKind.i64 0, PV.int IntKind.i64 0, PV.int IntKind.i64 0, PV.int IntKind.i64 0, PV.int IntKind.i64 0, PV.int IntKind.i64 0, PV.bool false, PV.bool false, PV.bool false])) (.pcells (ct c)) k1 ((by intro h; cases h))
    have hK := hK.trans (Kp.box G (.pcells ([PV.str ⟨#[]⟩, PV.int IntKind.i64 0, PV.int IntKind.i64 0, PV.int IntKind.i64 0, PV.int IntKind.i64 0, PV.int IntKind.i64 0, PV.int IntKind.i64 0, PV.bool false, PV.bool false, PV.bool false])) (.pcells (ct c)))
    generalize hset (G ++ [HObj.pcells ([PV.str ⟨#[]⟩, PV.int IntKind.i64 0, PV.int IntKind.i64 0, PV.int IntKind.i64 0, PV.int IntKind.i64 0, PV.int IntKind.i64 0, PV.int IntKind.i64 0, PV.bool false, PV.bool false, PV.bool false])]) G.length (.pcells (ct c)) = G at *
    cases hz : dZ (p.l.take i)
    all_goals
      rw [hz] at sZ
    all_goals
      repeat' (first
        | refine boolK_beq (fun _ => ?_) (fun _ => ?_)
        | refine hgetK_has _ k5 ?_
        | refine getK_has rfl ?_
        | fail)
    all_goals
      refine eqK_has_eq _ (i64_succ (by omega)) ?_
      refine Has.intro ⟨(i + 1, G), ⟨hlt, hK, k1⟩, (by dsimp only; omega), ⟨rfl, ?_, rfl, rfl, rfl, trivial⟩, rfl⟩
      show _ = AV.pv (PV.bool (dZ (p.l.take (i + 1))))
      rw [sZ]
      first
        | rfl
        | (rw [decide_eq_true (show isZ c by unfold isZ; omega)]; rfl)
        | (rw [decide_eq_false (show ¬ isZ c by unfold isZ; omega)]; rfl)
  · have : i = p.l.length := by omega
    subst this
    refine Has.intro ?_
    rw [List.take_length]
    by_cases hz : ∀ c ∈ p.l, isZ c
    · rw [show dZ p.l = true from decide_eq_true hz]
      refine Has.intro ⟨?_, hK⟩
      unfold classI; rw [if_pos hz]; rfl
    rw [show dZ p.l = false from decide_eq_false hz]
    refine hgetK_has _ k1 ?_
    refine getK_has rfl ?_
    refine loopK_has ?_
    refine iterE_loop (σ := Nat × Heap) (fun s => p.l.length - s.1) (fun s => [(43, .pv (.sl x p.l.length (flat ct p.l))), (44, .pv (.int .i64 p.l.length)), (45, .pv (.int .i64 s.1))]) (fun s => s.2)
      (fun s => s.1 ≤ p.l.length ∧ Kp H s.2 ∧ ∀ d ∈ p.l.take s.1, isG d) (fun ⟨i, G⟩ ⟨hi, hK, hG⟩ r => ?_) (0, _) ⟨Nat.zero_le _, hK, fun d hd => by simp at hd⟩ ⟨rfl, rfl, rfl, trivial⟩ rfl
    dsimp only at hi hK hG ⊢
    refine boolK_dec (fun hc => ?_) (fun hc => ?_)
    · have hlt : i < p.l.length := by omega
      obtain ⟨c, hcg⟩ : ∃ c, p.l[i]? = some c := ⟨_, List.getElem?_eq_getElem hlt⟩
      obtain ⟨g1, g2⟩ := flat_get ct_len hcg
      have hmem : c ∈ p.l := List.mem_of_getElem? hcg
      refine needK_has (by (first | rfl | (simp; done) | (simp; omega))) ?_
      refine secK_has g1 g2 ?_
      refine hgetK_last ?_
      refine needK_has rfl ?_
      refine eqK_has_eq (ct c) rfl ?_
      have k5 := hget_hset_same (H := G ++ [HObj.pcells ([PV.str ⟨#[]⟩, PV.int IntKind.i64 0, PV.int IntKind.i64 0, PV.int IntKind.i64 0, PV.int IntKind.i64 0, PV.int IntKind.i64 0, PV.int IntKind.i64 0, PV.bool false, PV.bool false, PV.bool false])]) (id := G.length) (.pcells (ct c)) (by simp)
      have hK := hK.trans (Kp.box G (.pcells ([PV.str ⟨#[]⟩, PV.int IntKind.i64 0, PV.int IntKind.i64 0, PV.int IntKind.i64 0, PV.int IntKind.i64 0, PV.int IntKind.i64 0, PV.int IntKind.i64 0, PV.bool false, PV.bool false, PV.bool false])) (.pcells (ct c)))
      generalize hset (G ++ [HObj.pcells ([PV.str ⟨#[]⟩, PV.int IntKind.i64 0, PV.int IntKind.i64 0, PV.int IntKind.i64 0, PV.int IntKind.i64 0, PV.int IntKind.i64 0, PV.int IntKind.i64 0, PV.bool false, PV.bool false, PV.bool false])]) G.length (.pcells (ct c)) = G at *
      repeat' (first
        | refine boolK_beq (fun _ => ?_) (fun _ => ?_)
        | refine boolK_bne (fun _ => ?_) (fun _ => ?_)
        | refine hgetK_has _ k5 ?_
        | refine getK_has rfl ?_
        | fail)
      all_goals first
        | (have hn : ¬ isG c := by unfold isG; omega
           refine Has.intro (Has.intro ⟨?_, hK⟩)
           unfold classI; rw [if_neg hz, if_neg (fun h => hn (h c hmem))]; rfl)
        | (have hy : isG c := by unfold isG; omega
           refine eqK_has_eq _ (i64_succ (by omega)) ?_
           exact Has.intro ⟨(i + 1, G), ⟨hlt, hK, (all_step hcg).2 ⟨hG, hy⟩⟩, (by dsimp only; omega), ⟨rfl, rfl, rfl, trivial⟩, rfl⟩)
    · have : i = p.l.length := by omega
      subst this
      rw [List.take_length] at hG
      refine Has.intro (Has.intro ⟨?_, hK⟩)
      unfold classI; rw [if_neg hz, if_pos hG]; rfl
set_option maxRecDepth 20000 in
set_option maxHeartbeats 4000000 in
theorem rclass_hs (id cap : Nat) (p : Pd) (hl : p.l.length ≤ maxLen) (H : Heap) (hid : hget H id = .pcells (flat ct p.l)) :
    Has (EE env (.fn 21) [.agg (pdh p id cap)] H) (fun y => y.1 = .pv (.int .i64 (classI p.l)) ∧ Kp H y.2) := by
  rw [maxLen_eq] at hl
  refine EE_has ?_
  refine hgetK_has (.cells (pdh p id cap)) (hget_append_same H _) ?_
  refine loopK_has ?_
  refine iterE_loop (σ := Nat × Heap) (fun s => p.l.length - s.1) (fun s => [(1, .ptr H.length 0), (3, .pv (.bool (dZ (p.l.take s.1)))), (9, .hs 10 id 0 p.l.length cap), (10, .pv (.int .i64 p.l.length)), (11, .pv (.int .i64 s.1))]) (fun s => s.2)
    (fun s => s.1 ≤ p.l.length ∧ Kp H s.2 ∧ hget s.2 H.length = .cells (pdh p id cap)) (fun ⟨i, G⟩ ⟨hi, hK, k1⟩ r => ?_) (0, _) ⟨Nat.zero_le _, Kp.app H _, hget_append_same H _⟩ ⟨rfl, rfl, rfl, rfl, rfl, trivial⟩ rfl
  dsimp only at hi hK k1 ⊢
  refine boolK_dec (fun hc => ?_) (fun hc => ?_)
  · have hlt : i < p.l.length := by omega
    obtain ⟨c, hcg⟩ : ∃ c, p.l[i]? = some c := ⟨_, List.getElem?_eq_getElem hlt⟩
    obtain ⟨g1, g2⟩ := flat_get ct_len hcg
    have sZ := dZ_step hcg
    refine needK_has (by (first | rfl | (simp; done) | (simp; omega))) ?_
    refine hgetK_has _ (hK.2 _ _ hid ((by intro h; cases h)) ((fun _ _ h => by cases h))) ?_
    refine secK_has (v := ct c) (by rw [at10]; exact g1) (by rw [at10]; exact g2) ?_
    refine hgetK_last ?_
    refine needK_has rfl ?_
    refine eqK_has_eq (ct c) rfl ?_
    have k5 := hget_hset_same (H := G ++ [HObj.pcells ([PV.str ⟨#[]⟩, PV.int IntKind.i64 0, PV.int IntKind.i64 0, PV.int IntKind.i64 0, PV.int IntKind.i64 0, PV.int IntKind.i64 0, PV.int IntKind.i64 0, PV.bool false, PV.bool false, PV.bool false])]) (id := G.length) (.pcells (ct c)) (by simp)
    have k1 := keep2 (.pcells ([PV.str ⟨#[]⟩, PV.int IntKind.i64 0, PV.int IntKind.i64 0, PV.int IntKind.i64 0, PV.int IntKind.i64 0, PV.int IntKind.i64 0, PV.int IntKind.i64 0, PV.bool false, PV.bool false, PV.bool false])) (.pcells (ct c)) k1 ((by intro h; cases h))
    have hK := hK.trans (Kp.box G (.pcells ([PV.str ⟨#[]⟩, PV.int IntKind.i64 0, PV.int IntKind.i64 0, PV.int IntKind.i64 0, PV.int IntKind.i64 0, PV.int IntKind.i64 0, PV.int IntKind.i64 0, PV.bool false, PV.bool false, PV.bool false])) (.pcells (ct c)))
    generalize hset (G ++ [HObj.pcells ([PV.str ⟨#[]⟩, PV.int IntKind.i64 0, PV.int IntKind.i64 0, PV.int IntKind.i64 0, PV.int IntKind.i64 0, PV.int IntKind.i64 0, PV.int IntKind.i64 0, PV.bool false, PV.bool false, PV.bool false])]) G.length (.pcells (ct c)) = G at *
    cases hz : dZ (p.l.take i)
    all_goals
      rw [hz] at sZ
    all_goals
      repeat' (first
        | refine boolK_beq (fun _ => ?_) (fun _ => ?_)
        | refine hgetK_has _ k5 ?_
        | refine getK_has rfl ?_
        | fail)
    all_goals
      refine eqK_has_eq _ (i64_succ (by omega)) ?_
      refine Has.intro ⟨(i + 1, G), ⟨hlt, hK, k1⟩, (by dsimp only; omega), ⟨rfl, ?_, rfl, rfl, rfl, trivial⟩, rfl⟩
      show _ = AV.pv (PV.bool (dZ (p.l.take (i + 1))))
      rw [sZ]
      first
        | rfl
        | (rw [decide_eq_true (show isZ c by unfold isZ; omega)]; rfl)
        | (rw [decide_eq_false (show ¬ isZ c by unfold isZ; omega)]; rfl)
  · have : i = p.l.length := by omega
    subst this
    refine Has.intro ?_
    rw [List.take_length]
    by_cases hz : ∀ c ∈ p.l, isZ c
    · rw [show dZ p.l = true from decide_eq_true hz]
      refine Has.intro ⟨?_, hK⟩
      unfold classI; rw [if_pos hz]; rfl
    rw [show dZ p.l = false from decide_eq_false hz]
    refine hgetK_has _ k1 ?_
    refine loopK_has ?_
    refine iterE_loop (σ := Nat × Heap) (fun s => p.l.length - s.1) (fun s => [(43, .hs 10 id 0 p.l.length cap), (44, .pv (.int .i64 p.l.length)), (45, .pv (.int .i64 s.1))]) (fun s => s.2)
      (fun s => s.1 ≤ p.l.length ∧ Kp H s.2 ∧ ∀ d ∈ p.l.take s.1, isG d) (fun ⟨i, G⟩ ⟨hi, hK, hG⟩ r => ?_) (0, _) ⟨Nat.zero_le _, hK, fun d hd => by simp at hd⟩ ⟨rfl, rfl, rfl, trivial⟩ rfl
    dsimp only at hi hK hG ⊢
    refine boolK_dec (fun hc => ?_) (fun hc => ?_)
    · have hlt : i < p.l.length := by omega
      obtain ⟨c, hcg⟩ : ∃ c, p.l[i]? = some c := ⟨_, List.getElem?_eq_getElem hlt⟩
      obtain ⟨g1, g2⟩ := flat_get ct_len hcg
      have hmem : c ∈ p.l := List.mem_of_getElem? hcg
      refine needK_has (by (first | rfl | (simp; done) | (simp; omega))) ?_
      refine hgetK_has _ (hK.2 _ _ hid ((by intro h; cases h)) ((fun _ _ h => by cases h))) ?_
      refine secK_has (v := ct c) (by rw [at10]; exact g1) (by rw [at10]; exact g2) ?_
      refine hgetK_last ?_
      refine needK_has rfl ?_
      refine eqK_has_eq (ct c) rfl ?_
      have k5 := hget_hset_same (H := G ++ [HObj.pcells ([PV.str ⟨#[]⟩, PV.int IntKind.i64 0, PV.int IntKind.i64 0, PV.int IntKind.i64 0, PV.int IntKind.i64 0, PV.int IntKind.i64 0, PV.int IntKind.i64 0, PV.bool false, PV.bool false, PV.bool false])]) (id := G.length) (.pcells (ct c)) (by simp)
      have hK := hK.trans (Kp.box G (.pcells ([PV.str ⟨#[]⟩, PV.int IntKind.i64 0, PV.int IntKind.i64 0, PV.int IntKind.i64 0, PV.int IntKind.i64 0, PV.int IntKind.i64 0, PV.int IntKind.i64 0, PV.bool false, PV.bool false, PV.bool false])) (.pcells (ct c)))
      generalize hset (G ++ [HObj.pcells ([PV.str ⟨#[]⟩, PV.int IntKind.i64 0, PV.int IntKind.i64 0, PV.int IntKind.i64 0, PV.int IntKind.i64 0, PV.int IntKind.i64 0, PV.int IntKind.i64 0, PV.bool false, PV.bool false, PV.bool false])]) G.length (.pcells (ct c)) = G at *
      repeat' (first
        | refine boolK_beq (fun _ => ?_) (fun _ => ?_)
        | refine boolK_bne (fun _ => ?_) (fun _ => ?_)
        | refine hgetK_has _ k5 ?_
        | refine getK_has rfl ?_
        | fail)
      all_goals first
        | (have hn : ¬ isG c := by unfold isG; omega
           refine Has.intro (Has.intro ⟨?_, hK⟩)
           unfold classI; rw [if_neg hz, if_neg (fun h => hn (h c hmem))]; rfl)
        | (have hy : isG c := by unfold isG; omega
           refine eqK_has_eq _ (i64_succ (by omega)) ?_
           exact Has.intro ⟨(i + 1, G), ⟨hlt, hK, (all_step hcg).2 ⟨hG, hy⟩⟩, (by dsimp only; omega), ⟨rfl, rfl, rfl, trivial⟩, rfl⟩)
    · have : i = p.l.length := by omega
      subst this
      rw [List.take_length] at hG
      refine Has.intro (Has.intro ⟨?_, hK⟩)
      unfold classI; rw [if_neg hz, if_pos hG]; rfl
theorem rclass_ok (u : AV) (p : Pd) (hl : p.l.length ≤ maxLen) (H : Heap) (hu : PA u H p) : Has (EE env (.fn 21) [u] H) (fun y => y.1 = .pv (.int .i64 (classI p.l)) ∧ Kp H y.2) := by
  rcases hu with ⟨x, rfl⟩ | ⟨id, cap, rfl, hid⟩
  · exact rclass_plain x p hl H
  · exact rclass_hs id cap p hl H hid
end Go.Proofs.Ytnnhkkocdgegfaa
