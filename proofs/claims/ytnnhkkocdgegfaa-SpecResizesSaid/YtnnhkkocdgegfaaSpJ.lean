/-
  Classes of pods.
-/
import Derived.Test.YtnnhkkocdgegfaaSpI
set_option linter.all false
set_option linter.unusedVariables false
set_option linter.unusedSimpArgs false
set_option linter.unusedSectionVars false
namespace Go.Proofs.Ytnnhkkocdgegfaa
open Go Go.VM

def isZ (c : Ct) : Prop := c.rq.c = 0 ∧ c.lm.c = 0 ∧ c.rq.m = 0 ∧ c.lm.m = 0
instance (c : Ct) : Decidable (isZ c) := by unfold isZ; infer_instance
def isG (c : Ct) : Prop := c.rq.c = c.lm.c ∧ c.rq.m = c.lm.m ∧ c.rq.c ≠ 0 ∧ c.rq.m ≠ 0
instance (c : Ct) : Decidable (isG c) := by unfold isG; infer_instance
def classI (l : List Ct) : Int := if ∀ c ∈ l, isZ c then 2 else if ∀ c ∈ l, isG c then 0 else 1
theorem all_step {p : Ct → Prop} {l : List Ct} {i : Nat} {c : Ct} (h : l[i]? = some c) : (∀ d ∈ l.take (i + 1), p d) ↔ (∀ d ∈ l.take i, p d) ∧ p c := by
  rw [List.take_add_one, h]
  constructor
  · exact fun h => ⟨fun d hd => h d (List.mem_append_left _ hd), h c (List.mem_append_right _ (by simp))⟩
  · rintro ⟨h1, h2⟩ d hd
    rcases List.mem_append.1 hd with hd | hd
    · exact h1 d hd
    · simp at hd; subst hd; exact h2
def dG (l : List Ct) : Bool := decide (∀ d ∈ l, isG d)
def dZ (l : List Ct) : Bool := decide (∀ d ∈ l, isZ d)
theorem dG_step {l : List Ct} {i : Nat} {c : Ct} (h : l[i]? = some c) : dG (l.take (i + 1)) = (dG (l.take i) && decide (isG c)) := by
  unfold dG; rw [Bool.eq_iff_iff, Bool.and_eq_true, decide_eq_true_iff, decide_eq_true_iff, decide_eq_true_iff]; exact all_step h
theorem dZ_step {l : List Ct} {i : Nat} {c : Ct} (h : l[i]? = some c) : dZ (l.take (i + 1)) = (dZ (l.take i) && decide (isZ c)) := by
  unfold dZ; rw [Bool.eq_iff_iff, Bool.and_eq_true, decide_eq_true_iff, decide_eq_true_iff, decide_eq_true_iff]; exact all_step h
set_option maxRecDepth 20000 in
set_option maxHeartbeats 4000000 in
theorem class_plain (x : Ext) (p : Pd) (hl : p.l.length ≤ maxLen) (H : Heap) :
    Has (EE env (.fn 20) [.pv (.agg (pdc p x))] H) (fun y => y.1 = .pv (.int .i64 (classI p.l)) ∧ Kp H y.2) := by
  rw [maxLen_eq] at hl
  refine EE_has ?_
  refine hgetK_has (.pcells (pdc p x)) (hget_append_same H _) ?_
  refine getK_has rfl ?_
  refine loopK_has ?_
  refine iterE_loop (σ := Nat × Heap) (fun s => p.l.length - s.1) (fun s => [(3, .pv (.bool (dG (p.l.take s.1)))), (4, .pv (.bool (dZ (p.l.take s.1)))), (10, .pv (.sl x p.l.length (flat ct p.l))), (11, .pv (.int .i64 p.l.length)), (12, .pv (.int .i64 s.1))]) (fun s => s.2)
    (fun s => s.1 ≤ p.l.length ∧ Kp H s.2) (fun ⟨i, G⟩ ⟨hi, hK⟩ r => ?_) (0, _) ⟨Nat.zero_le _, Kp.app H _⟩ ⟨rfl, rfl, rfl, rfl, rfl, trivial⟩ rfl
  dsimp only at hi hK ⊢
  refine boolK_dec (fun hc => ?_) (fun hc => ?_)
  · have hlt : i < p.l.length := by omega
    obtain ⟨c, hcg⟩ : ∃ c, p.l[i]? = some c := ⟨_, List.getElem?_eq_getElem hlt⟩
    obtain ⟨g1, g2⟩ := flat_get ct_len hcg
    have sG := dG_step hcg
    have sZ := dZ_step hcg
    refine needK_has (by (first | rfl | (simp; done) | (simp; omega))) ?_
    refine secK_has g1 g2 ?_
    refine hgetK_last ?_
    refine needK_has rfl ?_
    refine eqK_has_eq (ct c) rfl ?_
    have k6 := hget_hset_same (H := G ++ [HObj.pcells ([PV.str ⟨#[]⟩, PV.int IntKind.i64 0, PV.int IntKind.i64 0, PV.int IntKind.i64 0, PV.int IntKind.i64 0, PV.int IntKind.i64 0, PV.int IntKind.i64 0, PV.bool false, PV.bool false, PV.bool false])]) (id := G.length) (.pcells (ct c)) (by simp)
    have hK := hK.trans (Kp.box G (.pcells ([PV.str ⟨#[]⟩, PV.int IntKind.i64 0, PV.int IntKind.i64 0, PV.int IntKind.i64 0, PV.int IntKind.i64 0, PV.int IntKind.i64 0, PV.int IntKind.i64 0, PV.bool false, PV.bool false, PV.bool false])) (.pcells (ct c)))
    generalize hset (G ++ [HObj.pcells ([PV.str ⟨#[]⟩, PV.int IntKind.i64 0, PV.int IntKind.i64 0, PV.int IntKind.i64 0, PV.int IntKind.i64 0, PV.int IntKind.i64 0, PV.int IntKind.i64 0, PV.bool false, PV.bool false, PV.bool false])]) G.length (.pcells (ct c)) = G at *
    refine hgetK_has _ ((hget_app _ (by simp; have := hget_lt k6 ((by intro h; cases h)); omega)).trans ((hget_app _ (hget_lt k6 ((by intro h; cases h)))).trans k6)) ?_
    refine secK_has (v := vc c.rq) rfl (of_decide_eq_true rfl) ?_
    refine hgetK_has _ ((hget_app _ (by simp; have := hget_lt k6 ((by intro h; cases h)); omega)).trans ((hget_app _ (hget_lt k6 ((by intro h; cases h)))).trans k6)) ?_
    refine secK_has (v := vc c.lm) rfl (of_decide_eq_true rfl) ?_
    have e7 : hget (G ++ [HObj.pcells ([PV.int IntKind.i64 0, PV.int IntKind.i64 0, PV.int IntKind.i64 0])] ++ [HObj.pcells ([PV.int IntKind.i64 0, PV.int IntKind.i64 0, PV.int IntKind.i64 0])]) G.length = .pcells ([PV.int IntKind.i64 0, PV.int IntKind.i64 0, PV.int IntKind.i64 0]) := (hget_app _ (by simp)).trans (hget_append_same G _)
    refine hgetK_has _ e7 ?_
    refine needK_has rfl ?_
    refine eqK_has_eq (vc c.rq) rfl ?_
    have e8 : hget (hset (G ++ [HObj.pcells ([PV.int IntKind.i64 0, PV.int IntKind.i64 0, PV.int IntKind.i64 0])] ++ [HObj.pcells ([PV.int IntKind.i64 0, PV.int IntKind.i64 0, PV.int IntKind.i64 0])]) G.length (.pcells (vc c.rq))) (G ++ [HObj.pcells ([PV.int IntKind.i64 0, PV.int IntKind.i64 0, PV.int IntKind.i64 0])]).length = .pcells ([PV.int IntKind.i64 0, PV.int IntKind.i64 0, PV.int IntKind.i64 0]) := (hget_hset_ne _ _ (by simp)).trans (hget_append_same _ _)
    refine hgetK_has _ e8 ?_
    refine needK_has rfl ?_
    refine eqK_has_eq (vc c.lm) rfl ?_
    have q6 : G.length ≠ (G ++ [HObj.pcells ([PV.int IntKind.i64 0, PV.int IntKind.i64 0, PV.int IntKind.i64 0])]).length := by simp
    have k6b : hget (G ++ [HObj.pcells ([PV.int IntKind.i64 0, PV.int IntKind.i64 0, PV.int IntKind.i64 0])] ++ [HObj.pcells ([PV.int IntKind.i64 0, PV.int IntKind.i64 0, PV.int IntKind.i64 0])]) _ = .pcells (ct c) := (hget_app _ (by simp; have := hget_lt k6 ((by intro h; cases h)); omega)).trans ((hget_app _ (hget_lt k6 ((by intro h; cases h)))).trans k6)
    refine sameK_has ?_ ?_ ?_
    · rw [k6b, hget_hset_ne _ _ (by have := hget_lt k6 ((by intro h; cases h)); omega), k6b]
    · first | (rw [k6b]; rfl) | (rw [hget_hset_ne _ _ (by have := hget_lt k6 ((by intro h; cases h)); omega), k6b]; rfl)
    have k7 := (hget_hset_ne (hset (G ++ [HObj.pcells ([PV.int IntKind.i64 0, PV.int IntKind.i64 0, PV.int IntKind.i64 0])] ++ [HObj.pcells ([PV.int IntKind.i64 0, PV.int IntKind.i64 0, PV.int IntKind.i64 0])]) G.length (.pcells (vc c.rq))) (.pcells (vc c.lm)) q6).trans (hget_hset_same _ (hget_lt e7 ((by intro h; cases h))))
    have k8 := hget_hset_same (H := hset (G ++ [HObj.pcells ([PV.int IntKind.i64 0, PV.int IntKind.i64 0, PV.int IntKind.i64 0])] ++ [HObj.pcells ([PV.int IntKind.i64 0, PV.int IntKind.i64 0, PV.int IntKind.i64 0])]) G.length (.pcells (vc c.rq))) (id := (G ++ [HObj.pcells ([PV.int IntKind.i64 0, PV.int IntKind.i64 0, PV.int IntKind.i64 0])]).length) (.pcells (vc c.lm)) (hget_lt e8 ((by intro h; cases h)))
    have hK2 : Kp H (hset (hset (G ++ [HObj.pcells ([PV.int IntKind.i64 0, PV.int IntKind.i64 0, PV.int IntKind.i64 0])] ++ [HObj.pcells ([PV.int IntKind.i64 0, PV.int IntKind.i64 0, PV.int IntKind.i64 0])]) G.length (.pcells (vc c.rq))) (G ++ [HObj.pcells ([PV.int IntKind.i64 0, PV.int IntKind.i64 0, PV.int IntKind.i64 0])]).length (.pcells (vc c.lm))) :=
      ((hK.trans ((Kp.app G [HObj.pcells ([PV.int IntKind.i64 0, PV.int IntKind.i64 0, PV.int IntKind.i64 0])]).trans (Kp.app _ [HObj.pcells ([PV.int IntKind.i64 0, PV.int IntKind.i64 0, PV.int IntKind.i64 0])]))).set _ hK.1).set _ (by have := hK.1; simp; omega)
    generalize hset (hset (G ++ [HObj.pcells ([PV.int IntKind.i64 0, PV.int IntKind.i64 0, PV.int IntKind.i64 0])] ++ [HObj.pcells ([PV.int IntKind.i64 0, PV.int IntKind.i64 0, PV.int IntKind.i64 0])]) G.length (.pcells (vc c.rq))) (G ++ [HObj.pcells ([PV.int IntKind.i64 0, PV.int IntKind.i64 0, PV.int IntKind.i64 0])]).length (.pcells (vc c.lm)) = G2 at *
    clear e7 e8 k6b k6 hK
    cases hg : dG (p.l.take i)
    all_goals
      cases hz : dZ (p.l.take i)
    all_goals
      rw [hg] at sG
      rw [hz] at sZ
    all_goals
      repeat' (first
        | refine boolK_beq (fun _ => ?_) (fun _ => ?_)
        | refine boolK_bne (fun _ => ?_) (fun _ => ?_)
        | refine hgetK_has _ k7 ?_
        | refine hgetK_has _ k8 ?_
        | refine getK_has rfl ?_
        | fail)
    all_goals
      refine eqK_has_eq _ (i64_succ (by omega)) ?_
      refine Has.intro ⟨(i + 1, G2), ⟨hlt, hK2⟩, (by dsimp only; omega), ⟨?_, ?_, rfl, rfl, rfl, trivial⟩, rfl⟩
      · show _ = AV.pv (PV.bool (dG (p.l.take (i + 1))))
        rw [sG]
        first
          | rfl
          | (rw [decide_eq_true (show isG c by unfold isG; omega)]; rfl)
          | (rw [decide_eq_false (show ¬ isG c by unfold isG; omega)]; rfl)
      · show _ = AV.pv (PV.bool (dZ (p.l.take (i + 1))))
        rw [sZ]
        first
          | rfl
          | (rw [decide_eq_true (show isZ c by unfold isZ; omega)]; rfl)
          | (rw [decide_eq_false (show ¬ isZ c by unfold isZ; omega)]; rfl)
  · have : i = p.l.length := by omega
    subst this
    refine Has.intro ?_
    rw [List.take_length]
    by_cases hz : ∀ c ∈ p.l, isZ c
    · rw [show dZ p.l = true from decide_eq_true hz]
      refine Has.intro ⟨?_, hK⟩
      unfold classI; rw [if_pos hz]; rfl
    · rw [show dZ p.l = false from decide_eq_false hz]
      by_cases hg : ∀ c ∈ p.l, isG c
      · rw [show dG p.l = true from decide_eq_true hg]
        refine Has.intro ⟨?_, hK⟩
        unfold classI; rw [if_neg hz, if_pos hg]; rfl
      · rw [show dG p.l = false from decide_eq_false hg]
        refine Has.intro ⟨?_, hK⟩
        unfold classI; rw [if_neg hz, if_neg hg]; rfl
set_option maxRecDepth 20000 in
set_option maxHeartbeats 4000000 in
theorem class_hs (id cap : Nat) (p : Pd) (hl : p.l.length ≤ maxLen) (H : Heap) (hid : hget H id = .pcells (flat ct p.l)) :
    Has (EE env (.fn 20) [.agg (pdh p id cap)] H) (fun y => y.1 = .pv (.int .i64 (classI p.l)) ∧ Kp H y.2) := by
  rw [maxLen_eq] at hl
  refine EE_has ?_
  refine hgetK_has (.cells (pdh p id cap)) (hget_append_same H _) ?_
  refine loopK_has ?_
  refine iterE_loop (σ := Nat × Heap) (fun s => p.l.length - s.1) (fun s => [(3, .pv (.bool (dG (p.l.take s.1)))), (4, .pv (.bool (dZ (p.l.take s.1)))), (10, .hs 10 id 0 p.l.length cap), (11, .pv (.int .i64 p.l.length)), (12, .pv (.int .i64 s.1))]) (fun s => s.2)
    (fun s => s.1 ≤ p.l.length ∧ Kp H s.2) (fun ⟨i, G⟩ ⟨hi, hK⟩ r => ?_) (0, _) ⟨Nat.zero_le _, Kp.app H _⟩ ⟨rfl, rfl, rfl, rfl, rfl, trivial⟩ rfl
  dsimp only at hi hK ⊢
  refine boolK_dec (fun hc => ?_) (fun hc => ?_)
  · have hlt : i < p.l.length := by omega
    obtain ⟨c, hcg⟩ : ∃ c, p.l[i]? = some c := ⟨_, List.getElem?_eq_getElem hlt⟩
    obtain ⟨g1, g2⟩ := flat_get ct_len hcg
    have sG := dG_step hcg
    have sZ := dZ_step hcg
    refine needK_has (by (first | rfl | (simp; done) | (simp; omega))) ?_
    refine hgetK_has _ (hK.2 _ _ hid ((by intro h; cases h)) ((fun _ _ h => by cases h))) ?_
    refine secK_has (v := ct c) (by rw [at10]; exact g1) (by rw [at10]; exact g2) ?_
    refine hgetK_last ?_
    refine needK_has rfl ?_
    refine eqK_has_eq (ct c) rfl ?_
    have k6 := hget_hset_same (H := G ++ [HObj.pcells ([PV.str ⟨#[]⟩, PV.int IntKind.i64 0, PV.int IntKind.i64 0, PV.int IntKind.i64 0, PV.int IntKind.i64 0, PV.int IntKind.i64 0, PV.int IntKind.i64 0, PV.bool false, PV.bool false, PV.bool false])]) (id := G.length) (.pcells (ct c)) (by simp)
    have hK := hK.trans (Kp.box G (.pcells ([PV.str ⟨#[]⟩, PV.int IntKind.i64 0, PV.int IntKind.i64 0, PV.int IntKind.i64 0, PV.int IntKind.i64 0, PV.int IntKind.i64 0, PV.int IntKind.i64 0, PV.bool false, PV.bool false, PV.bool false])) (.pcells (ct c)))
    generalize hset (G ++ [HObj.pcells ([PV.str ⟨#[]⟩, PV.int IntKind.i64 0, PV.int IntKind.i64 0, PV.int IntKind.i64 0, PV.int IntKind.i64 0, PV.int IntKind.i64 0, PV.int IntKind.i64 0, PV.bool false, PV.bool false, PV.bool false])]) G.length (.pcells (ct c)) = G at *
    refine hgetK_has _ ((hget_app _ (by simp; have := hget_lt k6 ((by intro h; cases h)); omega)).trans ((hget_app _ (hget_lt k6 ((by intro h; cases h)))).trans k6)) ?_
    refine secK_has (v := vc c.rq) rfl (of_decide_eq_true rfl) ?_
    refine hgetK_has _ ((hget_app _ (by simp; have := hget_lt k6 ((by intro h; cases h)); omega)).trans ((hget_app _ (hget_lt k6 ((by intro h; cases h)))).trans k6)) ?_
    refine secK_has (v := vc c.lm) rfl (of_decide_eq_true rfl) ?_
    have e7 : hget (G ++ [HObj.pcells ([PV.int IntKind.i64 0, PV.int IntKind.i64 0, PV.int IntKind.i64 0])] ++ [HObj.pcells ([PV.int IntKind.i64 0, PV.int IntKind.i64 0, PV.int IntKind.i64 0])]) G.length = .pcells ([PV.int IntKind.i64 0, PV.int IntKind.i64 0, PV.int IntKind.i64 0]) := (hget_app _ (by simp)).trans (hget_append_same G _)
    refine hgetK_has _ e7 ?_
    refine needK_has rfl ?_
    refine eqK_has_eq (vc c.rq) rfl ?_
    have e8 : hget (hset (G ++ [HObj.pcells ([PV.int IntKind.i64 0, PV.int IntKind.i64 0, PV.int IntKind.i64 0])] ++ [HObj.pcells ([PV.int IntKind.i64 0, PV.int IntKind.i64 0, PV.int IntKind.i64 0])]) G.length (.pcells (vc c.rq))) (G ++ [HObj.pcells ([PV.int IntKind.i64 0, PV.int IntKind.i64 0, PV.int IntKind.i64 0])]).length = .pcells ([PV.int IntKind.i64 0, PV.int IntKind.i64 0, PV.int IntKind.i64 0]) := (hget_hset_ne _ _ (by simp)).trans (hget_append_same _ _)
    refine hgetK_has _ e8 ?_
    refine needK_has rfl ?_
    refine eqK_has_eq (vc c.lm) rfl ?_
    have q6 : G.length ≠ (G ++ [HObj.pcells ([PV.int IntKind.i64 0, PV.int IntKind.i64 0, PV.int IntKind.i64 0])]).length := by simp
    have k6b : hget (G ++ [HObj.pcells ([PV.int IntKind.i64 0, PV.int IntKind.i64 0, PV.int IntKind.i64 0])] ++ [HObj.pcells ([PV.int IntKind.i64 0, PV.int IntKind.i64 0, PV.int IntKind.i64 0])]) _ = .pcells (ct c) := (hget_app _ (by simp; have := hget_lt k6 ((by intro h; cases h)); omega)).trans ((hget_app _ (hget_lt k6 ((by intro h; cases h)))).trans k6)
    refine sameK_has ?_ ?_ ?_
    · rw [k6b, hget_hset_ne _ _ (by have := hget_lt k6 ((by intro h; cases h)); omega), k6b]
    · first | (rw [k6b]; rfl) | (rw [hget_hset_ne _ _ (by have := hget_lt k6 ((by intro h; cases h)); omega), k6b]; rfl)
    have k7 := (hget_hset_ne (hset (G ++ [HObj.pcells ([PV.int IntKind.i64 0, PV.int IntKind.i64 0, PV.int IntKind.i64 0])] ++ [HObj.pcells ([PV.int IntKind.i64 0, PV.int IntKind.i64 0, PV.int IntKind.i64 0])]) G.length (.pcells (vc c.rq))) (.pcells (vc c.lm)) q6).trans (hget_hset_same _ (hget_lt e7 ((by intro h; cases h))))
    have k8 := hget_hset_same (H := hset (G ++ [HObj.pcells ([PV.int IntKind.i64 0, PV.int IntKind.i64 0, PV.int IntKind.i64 0])] ++ [HObj.pcells ([PV.int IntKind.i64 0, PV.int IntKind.i64 0, PV.int IntKind.i64 0])]) G.length (.pcells (vc c.rq))) (id := (G ++ [HObj.pcells ([PV.int IntKind.i64 0, PV.int IntKind.i64 0, PV.int IntKind.i64 0])]).length) (.pcells (vc c.lm)) (hget_lt e8 ((by intro h; cases h)))
    have hK2 : Kp H (hset (hset (G ++ [HObj.pcells ([PV.int IntKind.i64 0, PV.int IntKind.i64 0, PV.int IntKind.i64 0])] ++ [HObj.pcells ([PV.int IntKind.i64 0, PV.int IntKind.i64 0, PV.int IntKind.i64 0])]) G.length (.pcells (vc c.rq))) (G ++ [HObj.pcells ([PV.int IntKind.i64 0, PV.int IntKind.i64 0, PV.int IntKind.i64 0])]).length (.pcells (vc c.lm))) :=
      ((hK.trans ((Kp.app G [HObj.pcells ([PV.int IntKind.i64 0, PV.int IntKind.i64 0, PV.int IntKind.i64 0])]).trans (Kp.app _ [HObj.pcells ([PV.int IntKind.i64 0, PV.int IntKind.i64 0, PV.int IntKind.i64 0])]))).set _ hK.1).set _ (by have := hK.1; simp; omega)
    generalize hset (hset (G ++ [HObj.pcells ([PV.int IntKind.i64 0, PV.int IntKind.i64 0, PV.int IntKind.i64 0])] ++ [HObj.pcells ([PV.int IntKind.i64 0, PV.int IntKind.i64 0, PV.int IntKind.i64 0])]) G.length (.pcells (vc c.rq))) (G ++ [HObj.pcells ([PV.int IntKind.i64 0, PV.int IntKind.i64 0, PV.int IntKind.i64 0])]).length (.pcells (vc c.lm)) = G2 at *
    clear e7 e8 k6b k6 hK
    cases hg : dG (p.l.take i)
    all_goals
      cases hz : dZ (p.l.take i)
    all_goals
      rw [hg] at sG
      rw [hz] at sZ
    all_goals
      repeat' (first
        | refine boolK_beq (fun _ => ?_) (fun _ => ?_)
        | refine boolK_bne (fun _ => ?_) (fun _ => ?_)
        | refine hgetK_has _ k7 ?_
        | refine hgetK_has _ k8 ?_
        | refine getK_has rfl ?_
        | fail)
    all_goals
      refine eqK_has_eq _ (i64_succ (by omega)) ?_
      refine Has.intro ⟨(i + 1, G2), ⟨hlt, hK2⟩, (by dsimp only; omega), ⟨?_, ?_, rfl, rfl, rfl, trivial⟩, rfl⟩
      · show _ = AV.pv (PV.bool (dG (p.l.take (i + 1))))
        rw [sG]
        first
          | rfl
          | (rw [decide_eq_true (show isG c by unfold isG; omega)]; rfl)
          | (rw [decide_eq_false (show ¬ isG c by unfold isG; omega)]; rfl)
      · show _ = AV.pv (PV.bool (dZ (p.l.take (i + 1))))
        rw [sZ]
        first
          | rfl
          | (rw [decide_eq_true (show isZ c by unfold isZ; omega)]; rfl)
          | (rw [decide_eq_false (show ¬ isZ c by unfold isZ; omega)]; rfl)
  · have : i = p.l.length := by omega
    subst this
    refine Has.intro ?_
    rw [List.take_length]
    by_cases hz : ∀ c ∈ p.l, isZ c
    · rw [show dZ p.l = true from decide_eq_true hz]
      refine Has.intro ⟨?_, hK⟩
      unfold classI; rw [if_pos hz]; rfl
    · rw [show dZ p.l = false from decide_eq_false hz]
      by_cases hg : ∀ c ∈ p.l, isG c
      · rw [show dG p.l = true from decide_eq_true hg]
        refine Has.intro ⟨?_, hK⟩
        unfold classI; rw [if_neg hz, if_pos hg]; rfl
      · rw [show dG p.l = false from decide_eq_false hg]
        refine Has.intro ⟨?_, hK⟩
        unfold classI; rw [if_neg hz, if_neg hg]; rfl
theorem class_ok (u : AV) (p : Pd) (hl : p.l.length ≤ maxLen) (H : Heap) (hu : PA u H p) : Has (EE env (.fn 20) [u] H) (fun y => y.1 = .pv (.int .i64 (classI p.l)) ∧ Kp H y.2) := by
  rcases hu with ⟨x, rfl⟩ | ⟨id, cap, rfl, hid⟩
  · exact class_plain x p hl H
  · exact class_hs id cap p hl H hid
end Go.Proofs.Ytnnhkkocdgegfaa
