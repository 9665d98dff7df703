/-
  Part 4 of the functions and the law.
  Sums of pods: the program's.
  Sums of pods: the document's.
  Classes of pods.
  Classes of pods: the document's.
  Right pods.
  Right pods: the document's.
  Pods that are the same.
  Pods that are the same.
  Requests, added up.
  How much a pod has to be looked at.
-/
import Derived.Test.YtmickbidffdklaaDoorP3
set_option linter.all false
set_option linter.unusedVariables false
set_option linter.unusedSimpArgs false
set_option linter.unusedSectionVars false
namespace Go.Proofs.YtmickbidffdklaaDoor
open Go Go.VM

/-- All that is no token stays. -/
def Kp (H H' : Heap) : Prop := H.length ≤ H'.length ∧ ∀ i o, hget H i = o → o ≠ .dead → (∀ n es, o ≠ .tok n es) → hget H' i = o
theorem Kp.refl (H : Heap) : Kp H H := ⟨Nat.le_refl _, fun _ _ h _ _ => h⟩
theorem Kp.trans {A B C : Heap} (h1 : Kp A B) (h2 : Kp B C) : Kp A C := ⟨Nat.le_trans h1.1 h2.1, fun i o h hd ht => h2.2 i o (h1.2 i o h hd ht) hd ht⟩
theorem Kp.app (H J : Heap) : Kp H (H ++ J) := ⟨by simp, fun i o h hd _ => (hget_app J (hget_lt h hd)).trans h⟩
theorem Kp.box (H : Heap) (z o' : HObj) : Kp H (hset (H ++ [z]) H.length o') := ⟨by rw [hset_len]; simp, fun i o h hd _ => keep2 z o' h hd⟩
theorem Kp.set {A B : Heap} (h : Kp A B) {i : Nat} (o' : HObj) (hi : A.length ≤ i) : Kp A (hset B i o') :=
  ⟨by rw [hset_len]; exact h.1, fun j o hj hd ht => (hget_hset_ne _ _ (by have := hget_lt hj hd; omega)).trans (h.2 j o hj hd ht)⟩
theorem Kp.fr {H H' : Heap} {v : AV} {e : Ext} {es n : Nat} {cs : List PV} (hv : AppV H v e es n cs) (hf : Fr v H H') : Kp H H' := ⟨hf.1, fun _ _ h hd ht => Fr.obj hv hf h hd ht⟩
theorem Kp.pa {H H' : Heap} (h : Kp H H') {u : AV} {p : Pd} (hu : PA u H p) : PA u H' p := by
  rcases hu with h1 | ⟨id, cap, h1, h2⟩
  · exact .inl h1
  · exact .inr ⟨id, cap, h1, h.2 _ _ h2 ((by intro h; cases h)) ((fun _ _ h => by cases h))⟩
theorem forceK_has {R : Type} {Q : R → Prop} {v : AV} {F : AV → Option R} (h : Has (F v) Q) : Has (forceK v F) Q := by rw [forceK_def]; exact h
theorem AppV.form1 {G : Heap} {v : AV} {n : Nat} {cs : List PV} (h : AppV G v .nil 3 (n + 1) cs) : ∃ t, v = .tsl t (n + 1) cs := by
  rcases AppV.forms h with ⟨h, _⟩ | h
  · exact absurd h (Nat.succ_ne_zero n)
  · exact h
set_option maxHeartbeats 4000000 in
theorem sums_plain (x : Ext) (p : Pd) (hl : p.l.length ≤ 1000) (H : Heap) :
    Has (EE env (.fn 45) [.pv (.agg (pdc p x))] H) (fun y => y.1 = .pv (sum3 p.l) ∧ Kp H y.2) := by
  refine EE_has ?_
  refine hgetK_has (.pcells (pdc p x)) ((hget_app _ (by simp)).trans ((hget_app _ (by simp)).trans (hget_append_same H _))) ?_
  refine getK_has rfl ?_
  refine loopK_has ?_
  refine iterE_loop (σ := Nat × AV × AV × Heap) (fun s => p.l.length - s.1) (fun s => [(2, .ptr (H.length + 1) 0), (3, .ptr (H.length + 2) 0), (5, s.2.1), (6, s.2.2.1), (14, .pv (.sl x p.l.length (flat ct p.l))), (15, .pv (.int .i64 p.l.length)), (16, .pv (.int .i64 s.1))]) (fun s => s.2.2.2)
    (fun s => s.1 ≤ p.l.length ∧ Two s.2.2.2 p.l s.1 s.2.1 s.2.2.1 ∧ hget s.2.2.2 (H.length + 1) = z3 ∧ hget s.2.2.2 (H.length + 2) = z3 ∧ Kp H s.2.2.2) (fun ⟨i, v, w, G⟩ ⟨hi, hT, k2, k3, hK⟩ r => ?_)
    (0, .pv (.sl .nil 0 []), .pv (.sl .nil 0 []), _) ⟨Nat.zero_le _, Two.zero _ _, ?_, ?_, ?_⟩ ⟨?_, ?_, rfl, rfl, rfl, rfl, rfl, trivial⟩ rfl
  · dsimp only at hi hT k2 k3 hK ⊢
    refine boolK_dec (fun hc => ?_) (fun hc => ?_)
    · have hlt : i < p.l.length := by omega
      obtain ⟨c, hcg⟩ : ∃ c, p.l[i]? = some c := ⟨_, List.getElem?_eq_getElem hlt⟩
      obtain ⟨g1, g2⟩ := flat_get ct_len hcg
      refine needK_has (by (first | rfl | (simp; done) | (simp; omega))) ?_
      refine secK_has g1 g2 ?_
      refine hgetK_last ?_
      refine needK_has rfl ?_
      refine eqK_has_eq (ct c) rfl ?_
      have hT := Two.box hT (.pcells ([PV.str ⟨#[]⟩, PV.int IntKind.i64 0, PV.int IntKind.i64 0, PV.int IntKind.i64 0, PV.int IntKind.i64 0, PV.int IntKind.i64 0, PV.int IntKind.i64 0, PV.bool false, PV.bool false, PV.bool false])) (.pcells (ct c)) ((fun _ _ h => by cases h))
      have k8 := hget_hset_same (H := G ++ [HObj.pcells ([PV.str ⟨#[]⟩, PV.int IntKind.i64 0, PV.int IntKind.i64 0, PV.int IntKind.i64 0, PV.int IntKind.i64 0, PV.int IntKind.i64 0, PV.int IntKind.i64 0, PV.bool false, PV.bool false, PV.bool false])]) (id := G.length) (.pcells (ct c)) (by simp)
      have k2 := keep2 (.pcells ([PV.str ⟨#[]⟩, PV.int IntKind.i64 0, PV.int IntKind.i64 0, PV.int IntKind.i64 0, PV.int IntKind.i64 0, PV.int IntKind.i64 0, PV.int IntKind.i64 0, PV.bool false, PV.bool false, PV.bool false])) (.pcells (ct c)) k2 ((by intro h; cases h))
      have k3 := keep2 (.pcells ([PV.str ⟨#[]⟩, PV.int IntKind.i64 0, PV.int IntKind.i64 0, PV.int IntKind.i64 0, PV.int IntKind.i64 0, PV.int IntKind.i64 0, PV.int IntKind.i64 0, PV.bool false, PV.bool false, PV.bool false])) (.pcells (ct c)) k3 ((by intro h; cases h))
      have hK := hK.trans (Kp.box G (.pcells ([PV.str ⟨#[]⟩, PV.int IntKind.i64 0, PV.int IntKind.i64 0, PV.int IntKind.i64 0, PV.int IntKind.i64 0, PV.int IntKind.i64 0, PV.int IntKind.i64 0, PV.bool false, PV.bool false, PV.bool false])) (.pcells (ct c)))
      generalize hset (G ++ [HObj.pcells ([PV.str ⟨#[]⟩, PV.int IntKind.i64 0, PV.int IntKind.i64 0, PV.int IntKind.i64 0, PV.int IntKind.i64 0, PV.int IntKind.i64 0, PV.int IntKind.i64 0, PV.bool false, PV.bool false, PV.bool false])]) G.length (.pcells (ct c)) = G at *
      rcases AppV.forms hT.1 with ⟨hz, rfl⟩ | ⟨t, rfl⟩
      all_goals
       rcases AppV.forms hT.2.1 with ⟨hz2, rfl⟩ | ⟨t2, rfl⟩
      all_goals
       refine hgetK_has _ k8 ?_
       refine secK_has (v := vc c.rq) rfl (of_decide_eq_true rfl) ?_
       refine app_has (m := 1) (new := vc c.rq) hT.1 rfl (by show (i + 1) * 24 ≤ 140737488355328; omega) (fun v' G1 hv' hf ht => ?_)
       obtain ⟨a1, a2, a3⟩ := two_first hT hcg hv' hf ht
       have kf := Kp.fr hT.1 hf
       have k8a := kf.2 _ _ k8 ((by intro h; cases h)) ((fun _ _ h => by cases h))
       obtain ⟨tv, rfl⟩ := AppV.form1 hv'
       refine hgetK_has _ k8a ?_
       refine secK_has (v := vc c.lm) rfl (of_decide_eq_true rfl) ?_
       refine app_has (m := 1) (new := vc c.lm) a2 rfl (by show (i + 1) * 24 ≤ 140737488355328; omega) (fun w' G2 hw' hf2 ht2 => ?_)
       have hT2 := two_second a1 a2 a3 hcg hw' hf2 ht2
       have kf2 := Kp.fr a2 hf2
       obtain ⟨tw, rfl⟩ := AppV.form1 hw'
       refine sameK_has ?_ ?_ ?_
       · rw [k8, k8a]
       · first | (rw [k8]; rfl) | (rw [k8a]; rfl)
       refine eqK_has_eq _ (i64_succ (by omega)) ?_
       exact Has.intro ⟨(i + 1, _, _, G2), ⟨hlt, hT2, kf2.2 _ _ (kf.2 _ _ k2 ((by intro h; cases h)) ((fun _ _ h => by cases h))) ((by intro h; cases h)) ((fun _ _ h => by cases h)), kf2.2 _ _ (kf.2 _ _ k3 ((by intro h; cases h)) ((fun _ _ h => by cases h))) ((by intro h; cases h)) ((fun _ _ h => by cases h)), (hK.trans kf).trans kf2⟩, (by dsimp only; omega), ⟨rfl, rfl, rfl, rfl, rfl, rfl, rfl, trivial⟩, rfl⟩
    · have : i = p.l.length := by omega
      subst this
      refine Has.intro ?_
      have s1 : ∀ x', EP (EE env) 46 [.sl x' p.l.length (flat vc ((rqs p.l).take p.l.length))] = some (pairV (sumV (rqs p.l))) := fun x' => by
        have e : (rqs p.l).length = p.l.length := by simp [rqs]
        have := sum_ok x' (rqs p.l) (by rw [maxLen_eq]; omega)
        rw [← e, List.take_length]; exact this
      have s2 : ∀ x', EP (EE env) 46 [.sl x' p.l.length (flat vc ((lms p.l).take p.l.length))] = some (pairV (sumV (lms p.l))) := fun x' => by
        have e : (lms p.l).length = p.l.length := by simp [lms]
        have := sum_ok x' (lms p.l) (by rw [maxLen_eq]; omega)
        rw [← e, List.take_length]; exact this
      have s10 : p.l.length = 0 → EP (EE env) 46 [.sl .nil 0 []] = some (pairV (sumV (rqs p.l))) := fun h => by have := s1 .nil; rw [h] at this; exact this
      have s20 : p.l.length = 0 → EP (EE env) 46 [.sl .nil 0 []] = some (pairV (sumV (lms p.l))) := fun h => by have := s2 .nil; rw [h] at this; exact this
      have hsum : sum3 p.l = .tup [.agg (vc ((sumV (rqs p.l)).getD v0)), .agg (vc ((sumV (lms p.l)).getD v0)), .bool ((sumV (rqs p.l)).isSome && (sumV (lms p.l)).isSome)] := rfl
      rw [hsum]
      generalize sumV (rqs p.l) = o1 at *
      generalize sumV (lms p.l) = o2 at *
      have hpa : ∀ o, pairV o = .tup [.agg (vc (o.getD v0)), .bool o.isSome] := fun o => by cases o <;> rfl
      rw [hpa] at s1 s2 s10 s20
      rcases AppV.forms hT.1 with ⟨hz, rfl⟩ | ⟨t, rfl⟩
      all_goals
       rcases AppV.forms hT.2.1 with ⟨hz2, rfl⟩ | ⟨t2, rfl⟩
      all_goals
       first
         | refine callPK_has (s10 hz) ?_
         | refine callPK_has (s1 .nn) ?_
       refine hgetK_last ?_
       refine needK_has rfl ?_
       refine eqK_has_eq (vc (o1.getD v0)) rfl ?_
       have k9 := hget_hset_same (H := G ++ [HObj.pcells ([PV.int IntKind.i64 0, PV.int IntKind.i64 0, PV.int IntKind.i64 0])]) (id := G.length) (.pcells (vc (o1.getD v0))) (by simp)
       have k2 := keep2 (.pcells ([PV.int IntKind.i64 0, PV.int IntKind.i64 0, PV.int IntKind.i64 0])) (.pcells (vc (o1.getD v0))) k2 ((by intro h; cases h))
       have k3 := keep2 (.pcells ([PV.int IntKind.i64 0, PV.int IntKind.i64 0, PV.int IntKind.i64 0])) (.pcells (vc (o1.getD v0))) k3 ((by intro h; cases h))
       have hK := hK.trans (Kp.box G (.pcells ([PV.int IntKind.i64 0, PV.int IntKind.i64 0, PV.int IntKind.i64 0])) (.pcells (vc (o1.getD v0))))
       generalize hset (G ++ [HObj.pcells ([PV.int IntKind.i64 0, PV.int IntKind.i64 0, PV.int IntKind.i64 0])]) G.length (.pcells (vc (o1.getD v0))) = G at *
       first
         | refine callPK_has (s20 hz2) ?_
         | refine callPK_has (s2 .nn) ?_
       refine hgetK_last ?_
       refine needK_has rfl ?_
       refine eqK_has_eq (vc (o2.getD v0)) rfl ?_
       have hn11 : H.length + 2 < G.length := hget_lt k3 ((by intro h; cases h))
       have k11 := hget_hset_same (H := G ++ [HObj.pcells ([PV.int IntKind.i64 0, PV.int IntKind.i64 0, PV.int IntKind.i64 0])]) (id := G.length) (.pcells (vc (o2.getD v0))) (by simp)
       have k9 := keep2 (.pcells ([PV.int IntKind.i64 0, PV.int IntKind.i64 0, PV.int IntKind.i64 0])) (.pcells (vc (o2.getD v0))) k9 ((by intro h; cases h))
       have k2 := keep2 (.pcells ([PV.int IntKind.i64 0, PV.int IntKind.i64 0, PV.int IntKind.i64 0])) (.pcells (vc (o2.getD v0))) k2 ((by intro h; cases h))
       have k3 := keep2 (.pcells ([PV.int IntKind.i64 0, PV.int IntKind.i64 0, PV.int IntKind.i64 0])) (.pcells (vc (o2.getD v0))) k3 ((by intro h; cases h))
       have hK := hK.trans (Kp.box G (.pcells ([PV.int IntKind.i64 0, PV.int IntKind.i64 0, PV.int IntKind.i64 0])) (.pcells (vc (o2.getD v0))))
       generalize hset (G ++ [HObj.pcells ([PV.int IntKind.i64 0, PV.int IntKind.i64 0, PV.int IntKind.i64 0])]) G.length (.pcells (vc (o2.getD v0))) = G at *
       refine hgetK_has _ k9 ?_
       refine secK_has (v := vc (o1.getD v0)) rfl (of_decide_eq_true rfl) ?_
       refine hgetK_has _ k11 ?_
       refine secK_has (v := vc (o2.getD v0)) rfl (of_decide_eq_true rfl) ?_
       have l2 : H.length + 1 < G.length := hget_lt k2 ((by intro h; cases h))
       have l11 := hget_lt k11 ((by intro h; cases h))
       cases o1
       all_goals
        cases o2
       all_goals
        refine hgetK_has _ k2 ?_
        refine needK_has rfl ?_
        refine eqK_has ?_
        refine hgetK_has _ ((hget_hset_ne _ _ (by omega)).trans k3) ?_
        refine needK_has rfl ?_
        refine eqK_has ?_
        refine sameK_has ?_ ?_ ?_
        · first
            | (rw [k11, hget_hset_ne _ _ (by omega), k11])
            | (rw [hget_hset_ne _ _ (by omega), k11])
        · first | (rw [k11]; rfl) | (rw [hget_hset_ne _ _ (by omega), k11]; rfl)
        refine hgetK_has _ ((hget_hset_ne _ _ (by omega)).trans (hget_hset_same _ l2)) ?_
        refine secK_has rfl (of_decide_eq_true rfl) ?_
        refine hgetK_has _ (hget_hset_same _ (by rw [hset_len]; omega)) ?_
        refine secK_has rfl (of_decide_eq_true rfl) ?_
        exact Has.intro ⟨rfl, (hK.set _ (by omega)).set _ (by omega)⟩
  · exact (hget_app _ (by simp)).trans (by
      have := hget_append_same (H ++ [HObj.pcells (pdc p x)]) (.pcells ([PV.int IntKind.i64 0, PV.int IntKind.i64 0, PV.int IntKind.i64 0]))
      show hget _ _ = HObj.pcells ([PV.int IntKind.i64 0, PV.int IntKind.i64 0, PV.int IntKind.i64 0])
      simpa using this)
  · have := hget_append_same (H ++ [HObj.pcells (pdc p x)] ++ [HObj.pcells ([PV.int IntKind.i64 0, PV.int IntKind.i64 0, PV.int IntKind.i64 0])]) (.pcells ([PV.int IntKind.i64 0, PV.int IntKind.i64 0, PV.int IntKind.i64 0]))
    show hget _ _ = HObj.pcells ([PV.int IntKind.i64 0, PV.int IntKind.i64 0, PV.int IntKind.i64 0])
    simpa using this
  · rw [List.append_assoc, List.append_assoc]; exact Kp.app _ _
  · show AV.ptr (H ++ [HObj.pcells (pdc p x)]).length 0 = _
    rw [List.length_append]; rfl
  · show AV.ptr (H ++ [HObj.pcells (pdc p x)] ++ [HObj.pcells ([PV.int IntKind.i64 0, PV.int IntKind.i64 0, PV.int IntKind.i64 0])]).length 0 = _
    rw [List.length_append, List.length_append]; rfl
set_option maxHeartbeats 4000000 in
theorem sums_hs (id cap : Nat) (p : Pd) (hl : p.l.length ≤ 1000) (H : Heap) (hid : hget H id = .pcells (flat ct p.l)) :
    Has (EE env (.fn 45) [.agg (pdh p id cap)] H) (fun y => y.1 = .pv (sum3 p.l) ∧ Kp H y.2) := by
  refine EE_has ?_
  refine hgetK_has (.cells (pdh p id cap)) ((hget_app _ (by simp)).trans ((hget_app _ (by simp)).trans (hget_append_same H _))) ?_
  refine loopK_has ?_
  refine iterE_loop (σ := Nat × AV × AV × Heap) (fun s => p.l.length - s.1) (fun s => [(2, .ptr (H.length + 1) 0), (3, .ptr (H.length + 2) 0), (5, s.2.1), (6, s.2.2.1), (14, .hs 10 id 0 p.l.length cap), (15, .pv (.int .i64 p.l.length)), (16, .pv (.int .i64 s.1))]) (fun s => s.2.2.2)
    (fun s => s.1 ≤ p.l.length ∧ Two s.2.2.2 p.l s.1 s.2.1 s.2.2.1 ∧ hget s.2.2.2 (H.length + 1) = z3 ∧ hget s.2.2.2 (H.length + 2) = z3 ∧ Kp H s.2.2.2) (fun ⟨i, v, w, G⟩ ⟨hi, hT, k2, k3, hK⟩ r => ?_)
    (0, .pv (.sl .nil 0 []), .pv (.sl .nil 0 []), _) ⟨Nat.zero_le _, Two.zero _ _, ?_, ?_, ?_⟩ ⟨?_, ?_, rfl, rfl, rfl, rfl, rfl, trivial⟩ rfl
  · dsimp only at hi hT k2 k3 hK ⊢
    refine boolK_dec (fun hc => ?_) (fun hc => ?_)
    · have hlt : i < p.l.length := by omega
      obtain ⟨c, hcg⟩ : ∃ c, p.l[i]? = some c := ⟨_, List.getElem?_eq_getElem hlt⟩
      obtain ⟨g1, g2⟩ := flat_get ct_len hcg
      refine needK_has (by (first | rfl | (simp; done) | (simp; omega))) ?_
      refine hgetK_has _ (hK.2 _ _ hid ((by intro h; cases h)) ((fun _ _ h => by cases h))) ?_
      refine secK_has (v := ct c) (by rw [at10]; exact g1) (by rw [at10]; exact g2) ?_
      refine hgetK_last ?_
      refine needK_has rfl ?_
      refine eqK_has_eq (ct c) rfl ?_
      have hT := Two.box hT (.pcells ([PV.str ⟨#[]⟩, PV.int IntKind.i64 0, PV.int IntKind.i64 0, PV.int IntKind.i64 0, PV.int IntKind.i64 0, PV.int IntKind.i64 0, PV.int IntKind.i64 0, PV.bool false, PV.bool false, PV.bool false])) (.pcells (ct c)) ((fun _ _ h => by cases h))
      have k8 := hget_hset_same (H := G ++ [HObj.pcells ([PV.str ⟨#[]⟩, PV.int IntKind.i64 0, PV.int IntKind.i64 0, PV.int IntKind.i64 0, PV.int IntKind.i64 0, PV.int IntKind.i64 0, PV.int IntKind.i64 0, PV.bool false, PV.bool false, PV.bool false])]) (id := G.length) (.pcells (ct c)) (by simp)
      have k2 := keep2 (.pcells ([PV.str ⟨#[]⟩, PV.int IntKind.i64 0, PV.int IntKind.i64 0, PV.int IntKind.i64 0, PV.int IntKind.i64 0, PV.int IntKind.i64 0, PV.int IntKind.i64 0, PV.bool false, PV.bool false, PV.bool false])) (.pcells (ct c)) k2 ((by intro h; cases h))
      have k3 := keep2 (.pcells ([PV.str ⟨#[]⟩, PV.int IntKind.i64 0, PV.int IntKind.i64 0, PV.int IntKind.i64 0, PV.int IntKind.i64 0, PV.int IntKind.i64 0, PV.int IntKind.i64 0, PV.bool false, PV.bool false, PV.bool false])) (.pcells (ct c)) k3 ((by intro h; cases h))
      have hK := hK.trans (Kp.box G (.pcells ([PV.str ⟨#[]⟩, PV.int IntKind.i64 0, PV.int IntKind.i64 0, PV.int IntKind.i64 0, PV.int IntKind.i64 0, PV.int IntKind.i64 0, PV.int IntKind.i64 0, PV.bool false, PV.bool false, PV.bool false])) (.pcells (ct c)))
      generalize hset (G ++ [HObj.pcells ([PV.str ⟨#[]⟩, PV.int IntKind.i64 0, PV.int IntKind.i64 0, PV.int IntKind.i64 0, PV.int IntKind.i64 0, PV.int IntKind.i64 0, PV.int IntKind.i64 0, PV.bool false, PV.bool false, PV.bool false])]) G.length (.pcells (ct c)) = G at *
      rcases AppV.forms hT.1 with ⟨hz, rfl⟩ | ⟨t, rfl⟩
      all_goals
       rcases AppV.forms hT.2.1 with ⟨hz2, rfl⟩ | ⟨t2, rfl⟩
      all_goals
       refine hgetK_has _ k8 ?_
       refine secK_has (v := vc c.rq) rfl (of_decide_eq_true rfl) ?_
       refine app_has (m := 1) (new := vc c.rq) hT.1 rfl (by show (i + 1) * 24 ≤ 140737488355328; omega) (fun v' G1 hv' hf ht => ?_)
       obtain ⟨a1, a2, a3⟩ := two_first hT hcg hv' hf ht
       have kf := Kp.fr hT.1 hf
       have k8a := kf.2 _ _ k8 ((by intro h; cases h)) ((fun _ _ h => by cases h))
       obtain ⟨tv, rfl⟩ := AppV.form1 hv'
       refine hgetK_has _ k8a ?_
       refine secK_has (v := vc c.lm) rfl (of_decide_eq_true rfl) ?_
       refine app_has (m := 1) (new := vc c.lm) a2 rfl (by show (i + 1) * 24 ≤ 140737488355328; omega) (fun w' G2 hw' hf2 ht2 => ?_)
       have hT2 := two_second a1 a2 a3 hcg hw' hf2 ht2
       have kf2 := Kp.fr a2 hf2
       obtain ⟨tw, rfl⟩ := AppV.form1 hw'
       refine sameK_has ?_ ?_ ?_
       · rw [k8, k8a]
       · first | (rw [k8]; rfl) | (rw [k8a]; rfl)
       refine eqK_has_eq _ (i64_succ (by omega)) ?_
       exact Has.intro ⟨(i + 1, _, _, G2), ⟨hlt, hT2, kf2.2 _ _ (kf.2 _ _ k2 ((by intro h; cases h)) ((fun _ _ h => by cases h))) ((by intro h; cases h)) ((fun _ _ h => by cases h)), kf2.2 _ _ (kf.2 _ _ k3 ((by intro h; cases h)) ((fun _ _ h => by cases h))) ((by intro h; cases h)) ((fun _ _ h => by cases h)), (hK.trans kf).trans kf2⟩, (by dsimp only; omega), ⟨rfl, rfl, rfl, rfl, rfl, rfl, rfl, trivial⟩, rfl⟩
    · have : i = p.l.length := by omega
      subst this
      refine Has.intro ?_
      have s1 : ∀ x', EP (EE env) 46 [.sl x' p.l.length (flat vc ((rqs p.l).take p.l.length))] = some (pairV (sumV (rqs p.l))) := fun x' => by
        have e : (rqs p.l).length = p.l.length := by simp [rqs]
        have := sum_ok x' (rqs p.l) (by rw [maxLen_eq]; omega)
        rw [← e, List.take_length]; exact this
      have s2 : ∀ x', EP (EE env) 46 [.sl x' p.l.length (flat vc ((lms p.l).take p.l.length))] = some (pairV (sumV (lms p.l))) := fun x' => by
        have e : (lms p.l).length = p.l.length := by simp [lms]
        have := sum_ok x' (lms p.l) (by rw [maxLen_eq]; omega)
        rw [← e, List.take_length]; exact this
      have s10 : p.l.length = 0 → EP (EE env) 46 [.sl .nil 0 []] = some (pairV (sumV (rqs p.l))) := fun h => by have := s1 .nil; rw [h] at this; exact this
      have s20 : p.l.length = 0 → EP (EE env) 46 [.sl .nil 0 []] = some (pairV (sumV (lms p.l))) := fun h => by have := s2 .nil; rw [h] at this; exact this
      have hsum : sum3 p.l = .tup [.agg (vc ((sumV (rqs p.l)).getD v0)), .agg (vc ((sumV (lms p.l)).getD v0)), .bool ((sumV (rqs p.l)).isSome && (sumV (lms p.l)).isSome)] := rfl
      rw [hsum]
      generalize sumV (rqs p.l) = o1 at *
      generalize sumV (lms p.l) = o2 at *
      have hpa : ∀ o, pairV o = .tup [.agg (vc (o.getD v0)), .bool o.isSome] := fun o => by cases o <;> rfl
      rw [hpa] at s1 s2 s10 s20
      rcases AppV.forms hT.1 with ⟨hz, rfl⟩ | ⟨t, rfl⟩
      all_goals
       rcases AppV.forms hT.2.1 with ⟨hz2, rfl⟩ | ⟨t2, rfl⟩
      all_goals
       first
         | refine callPK_has (s10 hz) ?_
         | refine callPK_has (s1 .nn) ?_
       refine hgetK_last ?_
       refine needK_has rfl ?_
       refine eqK_has_eq (vc (o1.getD v0)) rfl ?_
       have k9 := hget_hset_same (H := G ++ [HObj.pcells ([PV.int IntKind.i64 0, PV.int IntKind.i64 0, PV.int IntKind.i64 0])]) (id := G.length) (.pcells (vc (o1.getD v0))) (by simp)
       have k2 := keep2 (.pcells ([PV.int IntKind.i64 0, PV.int IntKind.i64 0, PV.int IntKind.i64 0])) (.pcells (vc (o1.getD v0))) k2 ((by intro h; cases h))
       have k3 := keep2 (.pcells ([PV.int IntKind.i64 0, PV.int IntKind.i64 0, PV.int IntKind.i64 0])) (.pcells (vc (o1.getD v0))) k3 ((by intro h; cases h))
       have hK := hK.trans (Kp.box G (.pcells ([PV.int IntKind.i64 0, PV.int IntKind.i64 0, PV.int IntKind.i64 0])) (.pcells (vc (o1.getD v0))))
       generalize hset (G ++ [HObj.pcells ([PV.int IntKind.i64 0, PV.int IntKind.i64 0, PV.int IntKind.i64 0])]) G.length (.pcells (vc (o1.getD v0))) = G at *
       first
         | refine callPK_has (s20 hz2) ?_
         | refine callPK_has (s2 .nn) ?_
       refine hgetK_last ?_
       refine needK_has rfl ?_
       refine eqK_has_eq (vc (o2.getD v0)) rfl ?_
       have hn11 : H.length + 2 < G.length := hget_lt k3 ((by intro h; cases h))
       have k11 := hget_hset_same (H := G ++ [HObj.pcells ([PV.int IntKind.i64 0, PV.int IntKind.i64 0, PV.int IntKind.i64 0])]) (id := G.length) (.pcells (vc (o2.getD v0))) (by simp)
       have k9 := keep2 (.pcells ([PV.int IntKind.i64 0, PV.int IntKind.i64 0, PV.int IntKind.i64 0])) (.pcells (vc (o2.getD v0))) k9 ((by intro h; cases h))
       have k2 := keep2 (.pcells ([PV.int IntKind.i64 0, PV.int IntKind.i64 0, PV.int IntKind.i64 0])) (.pcells (vc (o2.getD v0))) k2 ((by intro h; cases h))
       have k3 := keep2 (.pcells ([PV.int IntKind.i64 0, PV.int IntKind.i64 0, PV.int IntKind.i64 0])) (.pcells (vc (o2.getD v0))) k3 ((by intro h; cases h))
       have hK := hK.trans (Kp.box G (.pcells ([PV.int IntKind.i64 0, PV.int IntKind.i64 0, PV.int IntKind.i64 0])) (.pcells (vc (o2.getD v0))))
       generalize hset (G ++ [HObj.pcells ([PV.int IntKind.i64 0, PV.int IntKind.i64 0, PV.int IntKind.i64 0])]) G.length (.pcells (vc (o2.getD v0))) = G at *
       refine hgetK_has _ k9 ?_
       refine secK_has (v := vc (o1.getD v0)) rfl (of_decide_eq_true rfl) ?_
       refine hgetK_has _ k11 ?_
       refine secK_has (v := vc (o2.getD v0)) rfl (of_decide_eq_true rfl) ?_
       have l2 : H.length + 1 < G.length := hget_lt k2 ((by intro h; cases h))
       have l11 := hget_lt k11 ((by intro h; cases h))
       cases o1
       all_goals
        cases o2
       all_goals
        refine hgetK_has _ k2 ?_
        refine needK_has rfl ?_
        refine eqK_has ?_
        refine hgetK_has _ ((hget_hset_ne _ _ (by omega)).trans k3) ?_
        refine needK_has rfl ?_
        refine eqK_has ?_
        refine sameK_has ?_ ?_ ?_
        · first
            | (rw [k11, hget_hset_ne _ _ (by omega), k11])
            | (rw [hget_hset_ne _ _ (by omega), k11])
        · first | (rw [k11]; rfl) | (rw [hget_hset_ne _ _ (by omega), k11]; rfl)
        refine hgetK_has _ ((hget_hset_ne _ _ (by omega)).trans (hget_hset_same _ l2)) ?_
        refine secK_has rfl (of_decide_eq_true rfl) ?_
        refine hgetK_has _ (hget_hset_same _ (by rw [hset_len]; omega)) ?_
        refine secK_has rfl (of_decide_eq_true rfl) ?_
        exact Has.intro ⟨rfl, (hK.set _ (by omega)).set _ (by omega)⟩
  · exact (hget_app _ (by simp)).trans (by
      have := hget_append_same (H ++ [HObj.cells (pdh p id cap)]) (.pcells ([PV.int IntKind.i64 0, PV.int IntKind.i64 0, PV.int IntKind.i64 0]))
      show hget _ _ = HObj.pcells ([PV.int IntKind.i64 0, PV.int IntKind.i64 0, PV.int IntKind.i64 0])
      simpa using this)
  · have := hget_append_same (H ++ [HObj.cells (pdh p id cap)] ++ [HObj.pcells ([PV.int IntKind.i64 0, PV.int IntKind.i64 0, PV.int IntKind.i64 0])]) (.pcells ([PV.int IntKind.i64 0, PV.int IntKind.i64 0, PV.int IntKind.i64 0]))
    show hget _ _ = HObj.pcells ([PV.int IntKind.i64 0, PV.int IntKind.i64 0, PV.int IntKind.i64 0])
    simpa using this
  · rw [List.append_assoc, List.append_assoc]; exact Kp.app _ _
  · show AV.ptr (H ++ [HObj.cells (pdh p id cap)]).length 0 = _
    rw [List.length_append]; rfl
  · show AV.ptr (H ++ [HObj.cells (pdh p id cap)] ++ [HObj.pcells ([PV.int IntKind.i64 0, PV.int IntKind.i64 0, PV.int IntKind.i64 0])]).length 0 = _
    rw [List.length_append, List.length_append]; rfl
theorem sums_ok (u : AV) (p : Pd) (hl : p.l.length ≤ 1000) (H : Heap) (hu : PA u H p) : Has (EE env (.fn 45) [u] H) (fun y => y.1 = .pv (sum3 p.l) ∧ Kp H y.2) := by
  rcases hu with ⟨x, rfl⟩ | ⟨id, cap, rfl, hid⟩
  · exact sums_plain x p hl H
  · exact sums_hs id cap p hl H hid
end Go.Proofs.YtmickbidffdklaaDoor

namespace Go.Proofs.YtmickbidffdklaaDoor
open Go Go.VM

set_option maxHeartbeats 4000000 in
theorem rsums_plain (x : Ext) (p : Pd) (hl : p.l.length ≤ 1000) (H : Heap) :
    Has (EE env (.fn 33) [.pv (.agg (pdc p x))] H) (fun y => y.1 = .pv (sum3 p.l) ∧ Kp H y.2) := by
  refine EE_has ?_
  refine hgetK_has (.pcells (pdc p x)) ((hget_app _ (by simp)).trans ((hget_app _ (by simp)).trans (hget_append_same H _))) ?_
  refine getK_has rfl ?_
  refine loopK_has ?_
  refine iterE_loop (σ := Nat × AV × AV × Heap) (fun s => p.l.length - s.1) (fun s => [(2, .ptr (H.length + 1) 0), (3, .ptr (H.length + 2) 0), (5, s.2.1), (6, s.2.2.1), (14, .pv (.sl x p.l.length (flat ct p.l))), (15, .pv (.int .i64 p.l.length)), (16, .pv (.int .i64 s.1))]) (fun s => s.2.2.2)
    (fun s => s.1 ≤ p.l.length ∧ Two s.2.2.2 p.l s.1 s.2.1 s.2.2.1 ∧ hget s.2.2.2 (H.length + 1) = z3 ∧ hget s.2.2.2 (H.length + 2) = z3 ∧ Kp H s.2.2.2) (fun ⟨i, v, w, G⟩ ⟨hi, hT, k2, k3, hK⟩ r => ?_)
    (0, .pv (.sl .nil 0 []), .pv (.sl .nil 0 []), _) ⟨Nat.zero_le _, Two.zero _ _, ?_, ?_, ?_⟩ ⟨?_, ?_, rfl, rfl, rfl, rfl, rfl, trivial⟩ rfl
  · dsimp only at hi hT k2 k3 hK ⊢
    refine boolK_dec (fun hc => ?_) (fun hc => ?_)
    · have hlt : i < p.l.length := by omega
      obtain ⟨c, hcg⟩ : ∃ c, p.l[i]? = some c := ⟨_, List.getElem?_eq_getElem hlt⟩
      obtain ⟨g1, g2⟩ := flat_get ct_len hcg
      refine needK_has (by (first | rfl | (simp; done) | (simp; omega))) ?_
      refine secK_has g1 g2 ?_
      refine hgetK_last ?_
      refine needK_has rfl ?_
      refine eqK_has_eq (ct c) rfl ?_
      have hT := Two.box hT (.pcells ([PV.str ⟨#[]⟩, PV.int IntKind.i64 0, PV.int IntKind.i64 0, PV.int IntKind.i64 0, PV.int IntKind.i64 0, PV.int IntKind.i64 0, PV.int IntKind.i64 0, PV.bool false, PV.bool false, PV.bool false])) (.pcells (ct c)) ((fun _ _ h => by cases h))
      have k8 := hget_hset_same (H := G ++ [HObj.pcells ([PV.str ⟨#[]⟩, PV.int IntKind.i64 0, PV.int IntKind.i64 0, PV.int IntKind.i64 0, PV.int IntKind.i64 0, PV.int IntKind.i64 0, PV.int IntKind.i64 0, PV.bool false, PV.bool false, PV.bool false])]) (id := G.length) (.pcells (ct c)) (by simp)
      have k2 := keep2 (.pcells ([PV.str ⟨#[]⟩, PV.int IntKind.i64 0, PV.int IntKind.i64 0, PV.int IntKind.i64 0, PV.int IntKind.i64 0, PV.int IntKind.i64 0, PV.int IntKind.i64 0, PV.bool false, PV.bool false, PV.bool false])) (.pcells (ct c)) k2 ((by intro h; cases h))
      have k3 := keep2 (.pcells ([PV.str ⟨#[]⟩, PV.int IntKind.i64 0, PV.int IntKind.i64 0, PV.int IntKind.i64 0, PV.int IntKind.i64 0, PV.int IntKind.i64 0, PV.int IntKind.i64 0, PV.bool false, PV.bool false, PV.bool false])) (.pcells (ct c)) k3 ((by intro h; cases h))
      have hK := hK.trans (Kp.box G (.pcells ([PV.str ⟨#[]⟩, PV.int IntKind.i64 0, PV.int IntKind.i64 0, PV.int IntKind.i64 0, PV.int IntKind.i64 0, PV.int IntKind.i64 0, PV.int IntKind.i64 0, PV.bool false, PV.bool false, PV.bool false])) (.pcells (ct c)))
      generalize hset (G ++ [HObj.pcells ([PV.str ⟨#[]⟩, PV.int IntKind.i64 0, PV.int IntKind.i64 0, PV.int IntKind.i64 0, PV.int IntKind.i64 0, PV.int IntKind.i64 0, PV.int IntKind.i64 0, PV.bool false, PV.bool false, PV.bool false])]) G.length (.pcells (ct c)) = G at *
      rcases AppV.forms hT.1 with ⟨hz, rfl⟩ | ⟨t, rfl⟩
      all_goals
       rcases AppV.forms hT.2.1 with ⟨hz2, rfl⟩ | ⟨t2, rfl⟩
      all_goals
       refine hgetK_has _ k8 ?_
       refine secK_has (v := vc c.rq) rfl (of_decide_eq_true rfl) ?_
       refine app_has (m := 1) (new := vc c.rq) hT.1 rfl (by show (i + 1) * 24 ≤ 140737488355328; omega) (fun v' G1 hv' hf ht => ?_)
       obtain ⟨a1, a2, a3⟩ := two_first hT hcg hv' hf ht
       have kf := Kp.fr hT.1 hf
       have k8a := kf.2 _ _ k8 ((by intro h; cases h)) ((fun _ _ h => by cases h))
       obtain ⟨tv, rfl⟩ := AppV.form1 hv'
       refine hgetK_has _ k8a ?_
       refine secK_has (v := vc c.lm) rfl (of_decide_eq_true rfl) ?_
       refine app_has (m := 1) (new := vc c.lm) a2 rfl (by show (i + 1) * 24 ≤ 140737488355328; omega) (fun w' G2 hw' hf2 ht2 => ?_)
       have hT2 := two_second a1 a2 a3 hcg hw' hf2 ht2
       have kf2 := Kp.fr a2 hf2
       obtain ⟨tw, rfl⟩ := AppV.form1 hw'
       refine eqK_has_eq _ (i64_succ (by omega)) ?_
       exact Has.intro ⟨(i + 1, _, _, G2), ⟨hlt, hT2, kf2.2 _ _ (kf.2 _ _ k2 ((by intro h; cases h)) ((fun _ _ h => by cases h))) ((by intro h; cases h)) ((fun _ _ h => by cases h)), kf2.2 _ _ (kf.2 _ _ k3 ((by intro h; cases h)) ((fun _ _ h => by cases h))) ((by intro h; cases h)) ((fun _ _ h => by cases h)), (hK.trans kf).trans kf2⟩, (by dsimp only; omega), ⟨rfl, rfl, rfl, rfl, rfl, rfl, rfl, trivial⟩, rfl⟩
    · have : i = p.l.length := by omega
      subst this
      refine Has.intro ?_
      have s1 : ∀ x', EP (EE env) 47 [.sl x' p.l.length (flat vc ((rqs p.l).take p.l.length))] = some (pairV (sumV (rqs p.l))) := fun x' => by
        have e : (rqs p.l).length = p.l.length := by simp [rqs]
        have := rsum_ok x' (rqs p.l) (by rw [maxLen_eq]; omega)
        rw [← e, List.take_length]; exact this
      have s2 : ∀ x', EP (EE env) 47 [.sl x' p.l.length (flat vc ((lms p.l).take p.l.length))] = some (pairV (sumV (lms p.l))) := fun x' => by
        have e : (lms p.l).length = p.l.length := by simp [lms]
        have := rsum_ok x' (lms p.l) (by rw [maxLen_eq]; omega)
        rw [← e, List.take_length]; exact this
      have s10 : p.l.length = 0 → EP (EE env) 47 [.sl .nil 0 []] = some (pairV (sumV (rqs p.l))) := fun h => by have := s1 .nil; rw [h] at this; exact this
      have s20 : p.l.length = 0 → EP (EE env) 47 [.sl .nil 0 []] = some (pairV (sumV (lms p.l))) := fun h => by have := s2 .nil; rw [h] at this; exact this
      have hsum : sum3 p.l = .tup [.agg (vc ((sumV (rqs p.l)).getD v0)), .agg (vc ((sumV (lms p.l)).getD v0)), .bool ((sumV (rqs p.l)).isSome && (sumV (lms p.l)).isSome)] := rfl
      rw [hsum]
      generalize sumV (rqs p.l) = o1 at *
      generalize sumV (lms p.l) = o2 at *
      have hpa : ∀ o, pairV o = .tup [.agg (vc (o.getD v0)), .bool o.isSome] := fun o => by cases o <;> rfl
      rw [hpa] at s1 s2 s10 s20
      rcases AppV.forms hT.1 with ⟨hz, rfl⟩ | ⟨t, rfl⟩
      all_goals
       rcases AppV.forms hT.2.1 with ⟨hz2, rfl⟩ | ⟨t2, rfl⟩
      all_goals
       first
         | refine callPK_has (s10 hz) ?_
         | refine callPK_has (s1 .nn) ?_
       refine hgetK_last ?_
       refine needK_has rfl ?_
       refine eqK_has_eq (vc (o1.getD v0)) rfl ?_
       have k9 := hget_hset_same (H := G ++ [HObj.pcells ([PV.int IntKind.i64 0, PV.int IntKind.i64 0, PV.int IntKind.i64 0])]) (id := G.length) (.pcells (vc (o1.getD v0))) (by simp)
       have k2 := keep2 (.pcells ([PV.int IntKind.i64 0, PV.int IntKind.i64 0, PV.int IntKind.i64 0])) (.pcells (vc (o1.getD v0))) k2 ((by intro h; cases h))
       have k3 := keep2 (.pcells ([PV.int IntKind.i64 0, PV.int IntKind.i64 0, PV.int IntKind.i64 0])) (.pcells (vc (o1.getD v0))) k3 ((by intro h; cases h))
       have hK := hK.trans (Kp.box G (.pcells ([PV.int IntKind.i64 0, PV.int IntKind.i64 0, PV.int IntKind.i64 0])) (.pcells (vc (o1.getD v0))))
       generalize hset (G ++ [HObj.pcells ([PV.int IntKind.i64 0, PV.int IntKind.i64 0, PV.int IntKind.i64 0])]) G.length (.pcells (vc (o1.getD v0))) = G at *
       first
         | refine callPK_has (s20 hz2) ?_
         | refine callPK_has (s2 .nn) ?_
       refine hgetK_last ?_
       refine needK_has rfl ?_
       refine eqK_has_eq (vc (o2.getD v0)) rfl ?_
       have hn11 : H.length + 2 < G.length := hget_lt k3 ((by intro h; cases h))
       have k11 := hget_hset_same (H := G ++ [HObj.pcells ([PV.int IntKind.i64 0, PV.int IntKind.i64 0, PV.int IntKind.i64 0])]) (id := G.length) (.pcells (vc (o2.getD v0))) (by simp)
       have k9 := keep2 (.pcells ([PV.int IntKind.i64 0, PV.int IntKind.i64 0, PV.int IntKind.i64 0])) (.pcells (vc (o2.getD v0))) k9 ((by intro h; cases h))
       have k2 := keep2 (.pcells ([PV.int IntKind.i64 0, PV.int IntKind.i64 0, PV.int IntKind.i64 0])) (.pcells (vc (o2.getD v0))) k2 ((by intro h; cases h))
       have k3 := keep2 (.pcells ([PV.int IntKind.i64 0, PV.int IntKind.i64 0, PV.int IntKind.i64 0])) (.pcells (vc (o2.getD v0))) k3 ((by intro h; cases h))
       have hK := hK.trans (Kp.box G (.pcells ([PV.int IntKind.i64 0, PV.int IntKind.i64 0, PV.int IntKind.i64 0])) (.pcells (vc (o2.getD v0))))
       generalize hset (G ++ [HObj.pcells ([PV.int IntKind.i64 0, PV.int IntKind.i64 0, PV.int IntKind.i64 0])]) G.length (.pcells (vc (o2.getD v0))) = G at *
       refine hgetK_has _ k9 ?_
       refine secK_has (v := vc (o1.getD v0)) rfl (of_decide_eq_true rfl) ?_
       refine hgetK_has _ k11 ?_
       refine secK_has (v := vc (o2.getD v0)) rfl (of_decide_eq_true rfl) ?_
       have l2 : H.length + 1 < G.length := hget_lt k2 ((by intro h; cases h))
       have l11 := hget_lt k11 ((by intro h; cases h))
       cases o1
       all_goals
        cases o2
       all_goals
        refine hgetK_has _ k2 ?_
        refine needK_has rfl ?_
        refine eqK_has ?_
        refine hgetK_has _ ((hget_hset_ne _ _ (by omega)).trans k3) ?_
        refine needK_has rfl ?_
        refine eqK_has ?_
        refine sameK_has ?_ ?_ ?_
        · first
            | (rw [k11, hget_hset_ne _ _ (by omega), k11])
            | (rw [hget_hset_ne _ _ (by omega), k11])
        · first | (rw [k11]; rfl) | (rw [hget_hset_ne _ _ (by omega), k11]; rfl)
        refine hgetK_has _ ((hget_hset_ne _ _ (by omega)).trans (hget_hset_same _ l2)) ?_
        refine secK_has rfl (of_decide_eq_true rfl) ?_
        refine hgetK_has _ (hget_hset_same _ (by rw [hset_len]; omega)) ?_
        refine secK_has rfl (of_decide_eq_true rfl) ?_
        exact Has.intro ⟨rfl, (hK.set _ (by omega)).set _ (by omega)⟩
  · exact (hget_app _ (by simp)).trans (by
      have := hget_append_same (H ++ [HObj.pcells (pdc p x)]) (.pcells ([PV.int IntKind.i64 0, PV.int IntKind.i64 0, PV.int IntKind.i64 0]))
      show hget _ _ = HObj.pcells ([PV.int IntKind.i64 0, PV.int IntKind.i64 0, PV.int IntKind.i64 0])
      simpa using this)
  · have := hget_append_same (H ++ [HObj.pcells (pdc p x)] ++ [HObj.pcells ([PV.int IntKind.i64 0, PV.int IntKind.i64 0, PV.int IntKind.i64 0])]) (.pcells ([PV.int IntKind.i64 0, PV.int IntKind.i64 0, PV.int IntKind.i64 0]))
    show hget _ _ = HObj.pcells ([PV.int IntKind.i64 0, PV.int IntKind.i64 0, PV.int IntKind.i64 0])
    simpa using this
  · rw [List.append_assoc, List.append_assoc]; exact Kp.app _ _
  · show AV.ptr (H ++ [HObj.pcells (pdc p x)]).length 0 = _
    rw [List.length_append]; rfl
  · show AV.ptr (H ++ [HObj.pcells (pdc p x)] ++ [HObj.pcells ([PV.int IntKind.i64 0, PV.int IntKind.i64 0, PV.int IntKind.i64 0])]).length 0 = _
    rw [List.length_append, List.length_append]; rfl
set_option maxHeartbeats 4000000 in
theorem rsums_hs (id cap : Nat) (p : Pd) (hl : p.l.length ≤ 1000) (H : Heap) (hid : hget H id = .pcells (flat ct p.l)) :
    Has (EE env (.fn 33) [.agg (pdh p id cap)] H) (fun y => y.1 = .pv (sum3 p.l) ∧ Kp H y.2) := by
  refine EE_has ?_
  refine hgetK_has (.cells (pdh p id cap)) ((hget_app _ (by simp)).trans ((hget_app _ (by simp)).trans (hget_append_same H _))) ?_
  refine loopK_has ?_
  refine iterE_loop (σ := Nat × AV × AV × Heap) (fun s => p.l.length - s.1) (fun s => [(2, .ptr (H.length + 1) 0), (3, .ptr (H.length + 2) 0), (5, s.2.1), (6, s.2.2.1), (14, .hs 10 id 0 p.l.length cap), (15, .pv (.int .i64 p.l.length)), (16, .pv (.int .i64 s.1))]) (fun s => s.2.2.2)
    (fun s => s.1 ≤ p.l.length ∧ Two s.2.2.2 p.l s.1 s.2.1 s.2.2.1 ∧ hget s.2.2.2 (H.length + 1) = z3 ∧ hget s.2.2.2 (H.length + 2) = z3 ∧ Kp H s.2.2.2) (fun ⟨i, v, w, G⟩ ⟨hi, hT, k2, k3, hK⟩ r => ?_)
    (0, .pv (.sl .nil 0 []), .pv (.sl .nil 0 []), _) ⟨Nat.zero_le _, Two.zero _ _, ?_, ?_, ?_⟩ ⟨?_, ?_, rfl, rfl, rfl, rfl, rfl, trivial⟩ rfl
  · dsimp only at hi hT k2 k3 hK ⊢
    refine boolK_dec (fun hc => ?_) (fun hc => ?_)
    · have hlt : i < p.l.length := by omega
      obtain ⟨c, hcg⟩ : ∃ c, p.l[i]? = some c := ⟨_, List.getElem?_eq_getElem hlt⟩
      obtain ⟨g1, g2⟩ := flat_get ct_len hcg
      refine needK_has (by (first | rfl | (simp; done) | (simp; omega))) ?_
      refine hgetK_has _ (hK.2 _ _ hid ((by intro h; cases h)) ((fun _ _ h => by cases h))) ?_
      refine secK_has (v := ct c) (by rw [at10]; exact g1) (by rw [at10]; exact g2) ?_
      refine hgetK_last ?_
      refine needK_has rfl ?_
      refine eqK_has_eq (ct c) rfl ?_
      have hT := Two.box hT (.pcells ([PV.str ⟨#[]⟩, PV.int IntKind.i64 0, PV.int IntKind.i64 0, PV.int IntKind.i64 0, PV.int IntKind.i64 0, PV.int IntKind.i64 0, PV.int IntKind.i64 0, PV.bool false, PV.bool false, PV.bool false])) (.pcells (ct c)) ((fun _ _ h => by cases h))
      have k8 := hget_hset_same (H := G ++ [HObj.pcells ([PV.str ⟨#[]⟩, PV.int IntKind.i64 0, PV.int IntKind.i64 0, PV.int IntKind.i64 0, PV.int IntKind.i64 0, PV.int IntKind.i64 0, PV.int IntKind.i64 0, PV.bool false, PV.bool false, PV.bool false])]) (id := G.length) (.pcells (ct c)) (by simp)
      have k2 := keep2 (.pcells ([PV.str ⟨#[]⟩, PV.int IntKind.i64 0, PV.int IntKind.i64 0, PV.int IntKind.i64 0, PV.int IntKind.i64 0, PV.int IntKind.i64 0, PV.int IntKind.i64 0, PV.bool false, PV.bool false, PV.bool false])) (.pcells (ct c)) k2 ((by intro h; cases h))
      have k3 := keep2 (.pcells ([PV.str ⟨#[]⟩, PV.int IntKind.i64 0, PV.int IntKind.i64 0, PV.int IntKind.i64 0, PV.int IntKind.i64 0, PV.int IntKind.i64 0, PV.int IntKind.i64 0, PV.bool false, PV.bool false, PV.bool false])) (.pcells (ct c)) k3 ((by intro h; cases h))
      have hK := hK.trans (Kp.box G (.pcells ([PV.str ⟨#[]⟩, PV.int IntKind.i64 0, PV.int IntKind.i64 0, PV.int IntKind.i64 0, PV.int IntKind.i64 0, PV.int IntKind.i64 0, PV.int IntKind.i64 0, PV.bool false, PV.bool false, PV.bool false])) (.pcells (ct c)))
      generalize hset (G ++ [HObj.pcells ([PV.str ⟨#[]⟩, PV.int IntKind.i64 0, PV.int IntKind.i64 0, PV.int IntKind.i64 0, PV.int IntKind.i64 0, PV.int IntKind.i64 0, PV.int IntKind.i64 0, PV.bool false, PV.bool false, PV.bool false])]) G.length (.pcells (ct c)) = G at *
      rcases AppV.forms hT.1 with ⟨hz, rfl⟩ | ⟨t, rfl⟩
      all_goals
       rcases AppV.forms hT.2.1 with ⟨hz2, rfl⟩ | ⟨t2, rfl⟩
      all_goals
       refine hgetK_has _ k8 ?_
       refine secK_has (v := vc c.rq) rfl (of_decide_eq_true rfl) ?_
       refine app_has (m := 1) (new := vc c.rq) hT.1 rfl (by show (i + 1) * 24 ≤ 140737488355328; omega) (fun v' G1 hv' hf ht => ?_)
       obtain ⟨a1, a2, a3⟩ := two_first hT hcg hv' hf ht
       have kf := Kp.fr hT.1 hf
       have k8a := kf.2 _ _ k8 ((by intro h; cases h)) ((fun _ _ h => by cases h))
       obtain ⟨tv, rfl⟩ := AppV.form1 hv'
       refine hgetK_has _ k8a ?_
       refine secK_has (v := vc c.lm) rfl (of_decide_eq_true rfl) ?_
       refine app_has (m := 1) (new := vc c.lm) a2 rfl (by show (i + 1) * 24 ≤ 140737488355328; omega) (fun w' G2 hw' hf2 ht2 => ?_)
       have hT2 := two_second a1 a2 a3 hcg hw' hf2 ht2
       have kf2 := Kp.fr a2 hf2
       obtain ⟨tw, rfl⟩ := AppV.form1 hw'
       refine eqK_has_eq _ (i64_succ (by omega)) ?_
       exact Has.intro ⟨(i + 1, _, _, G2), ⟨hlt, hT2, kf2.2 _ _ (kf.2 _ _ k2 ((by intro h; cases h)) ((fun _ _ h => by cases h))) ((by intro h; cases h)) ((fun _ _ h => by cases h)), kf2.2 _ _ (kf.2 _ _ k3 ((by intro h; cases h)) ((fun _ _ h => by cases h))) ((by intro h; cases h)) ((fun _ _ h => by cases h)), (hK.trans kf).trans kf2⟩, (by dsimp only; omega), ⟨rfl, rfl, rfl, rfl, rfl, rfl, rfl, trivial⟩, rfl⟩
    · have : i = p.l.length := by omega
      subst this
      refine Has.intro ?_
      have s1 : ∀ x', EP (EE env) 47 [.sl x' p.l.length (flat vc ((rqs p.l).take p.l.length))] = some (pairV (sumV (rqs p.l))) := fun x' => by
        have e : (rqs p.l).length = p.l.length := by simp [rqs]
        have := rsum_ok x' (rqs p.l) (by rw [maxLen_eq]; omega)
        rw [← e, List.take_length]; exact this
      have s2 : ∀ x', EP (EE env) 47 [.sl x' p.l.length (flat vc ((lms p.l).take p.l.length))] = some (pairV (sumV (lms p.l))) := fun x' => by
        have e : (lms p.l).length = p.l.length := by simp [lms]
        have := rsum_ok x' (lms p.l) (by rw [maxLen_eq]; omega)
        rw [← e, List.take_length]; exact this
      have s10 : p.l.length = 0 → EP (EE env) 47 [.sl .nil 0 []] = some (pairV (sumV (rqs p.l))) := fun h => by have := s1 .nil; rw [h] at this; exact this
      have s20 : p.l.length = 0 → EP (EE env) 47 [.sl .nil 0 []] = some (pairV (sumV (lms p.l))) := fun h => by have := s2 .nil; rw [h] at this; exact this
      have hsum : sum3 p.l = .tup [.agg (vc ((sumV (rqs p.l)).getD v0)), .agg (vc ((sumV (lms p.l)).getD v0)), .bool ((sumV (rqs p.l)).isSome && (sumV (lms p.l)).isSome)] := rfl
      rw [hsum]
      generalize sumV (rqs p.l) = o1 at *
      generalize sumV (lms p.l) = o2 at *
      have hpa : ∀ o, pairV o = .tup [.agg (vc (o.getD v0)), .bool o.isSome] := fun o => by cases o <;> rfl
      rw [hpa] at s1 s2 s10 s20
      rcases AppV.forms hT.1 with ⟨hz, rfl⟩ | ⟨t, rfl⟩
      all_goals
       rcases AppV.forms hT.2.1 with ⟨hz2, rfl⟩ | ⟨t2, rfl⟩
      all_goals
       first
         | refine callPK_has (s10 hz) ?_
         | refine callPK_has (s1 .nn) ?_
       refine hgetK_last ?_
       refine needK_has rfl ?_
       refine eqK_has_eq (vc (o1.getD v0)) rfl ?_
       have k9 := hget_hset_same (H := G ++ [HObj.pcells ([PV.int IntKind.i64 0, PV.int IntKind.i64 0, PV.int IntKind.i64 0])]) (id := G.length) (.pcells (vc (o1.getD v0))) (by simp)
       have k2 := keep2 (.pcells ([PV.int IntKind.i64 0, PV.int IntKind.i64 0, PV.int IntKind.i64 0])) (.pcells (vc (o1.getD v0))) k2 ((by intro h; cases h))
       have k3 := keep2 (.pcells ([PV.int IntKind.i64 0, PV.int IntKind.i64 0, PV.int IntKind.i64 0])) (.pcells (vc (o1.getD v0))) k3 ((by intro h; cases h))
       have hK := hK.trans (Kp.box G (.pcells ([PV.int IntKind.i64 0, PV.int IntKind.i64 0, PV.int IntKind.i64 0])) (.pcells (vc (o1.getD v0))))
       generalize hset (G ++ [HObj.pcells ([PV.int IntKind.i64 0, PV.int IntKind.i64 0, PV.int IntKind.i64 0])]) G.length (.pcells (vc (o1.getD v0))) = G at *
       first
         | refine callPK_has (s20 hz2) ?_
         | refine callPK_has (s2 .nn) ?_
       refine hgetK_last ?_
       refine needK_has rfl ?_
       refine eqK_has_eq (vc (o2.getD v0)) rfl ?_
       have hn11 : H.length + 2 < G.length := hget_lt k3 ((by intro h; cases h))
       have k11 := hget_hset_same (H := G ++ [HObj.pcells ([PV.int IntKind.i64 0, PV.int IntKind.i64 0, PV.int IntKind.i64 0])]) (id := G.length) (.pcells (vc (o2.getD v0))) (by simp)
       have k9 := keep2 (.pcells ([PV.int IntKind.i64 0, PV.int IntKind.i64 0, PV.int IntKind.i64 0])) (.pcells (vc (o2.getD v0))) k9 ((by intro h; cases h))
       have k2 := keep2 (.pcells ([PV.int IntKind.i64 0, PV.int IntKind.i64 0, PV.int IntKind.i64 0])) (.pcells (vc (o2.getD v0))) k2 ((by intro h; cases h))
       have k3 := keep2 (.pcells ([PV.int IntKind.i64 0, PV.int IntKind.i64 0, PV.int IntKind.i64 0])) (.pcells (vc (o2.getD v0))) k3 ((by intro h; cases h))
       have hK := hK.trans (Kp.box G (.pcells ([PV.int IntKind.i64 0, PV.int IntKind.i64 0, PV.int IntKind.i64 0])) (.pcells (vc (o2.getD v0))))
       generalize hset (G ++ [HObj.pcells ([PV.int IntKind.i64 0, PV.int IntKind.i64 0, PV.int IntKind.i64 0])]) G.length (.pcells (vc (o2.getD v0))) = G at *
       refine hgetK_has _ k9 ?_
       refine secK_has (v := vc (o1.getD v0)) rfl (of_decide_eq_true rfl) ?_
       refine hgetK_has _ k11 ?_
       refine secK_has (v := vc (o2.getD v0)) rfl (of_decide_eq_true rfl) ?_
       have l2 : H.length + 1 < G.length := hget_lt k2 ((by intro h; cases h))
       have l11 := hget_lt k11 ((by intro h; cases h))
       cases o1
       all_goals
        cases o2
       all_goals
        refine hgetK_has _ k2 ?_
        refine needK_has rfl ?_
        refine eqK_has ?_
        refine hgetK_has _ ((hget_hset_ne _ _ (by omega)).trans k3) ?_
        refine needK_has rfl ?_
        refine eqK_has ?_
        refine sameK_has ?_ ?_ ?_
        · first
            | (rw [k11, hget_hset_ne _ _ (by omega), k11])
            | (rw [hget_hset_ne _ _ (by omega), k11])
        · first | (rw [k11]; rfl) | (rw [hget_hset_ne _ _ (by omega), k11]; rfl)
        refine hgetK_has _ ((hget_hset_ne _ _ (by omega)).trans (hget_hset_same _ l2)) ?_
        refine secK_has rfl (of_decide_eq_true rfl) ?_
        refine hgetK_has _ (hget_hset_same _ (by rw [hset_len]; omega)) ?_
        refine secK_has rfl (of_decide_eq_true rfl) ?_
        exact Has.intro ⟨rfl, (hK.set _ (by omega)).set _ (by omega)⟩
  · exact (hget_app _ (by simp)).trans (by
      have := hget_append_same (H ++ [HObj.cells (pdh p id cap)]) (.pcells ([PV.int IntKind.i64 0, PV.int IntKind.i64 0, PV.int IntKind.i64 0]))
      show hget _ _ = HObj.pcells ([PV.int IntKind.i64 0, PV.int IntKind.i64 0, PV.int IntKind.i64 0])
      simpa using this)
  · have := hget_append_same (H ++ [HObj.cells (pdh p id cap)] ++ [HObj.pcells ([PV.int IntKind.i64 0, PV.int IntKind.i64 0, PV.int IntKind.i64 0])]) (.pcells ([PV.int IntKind.i64 0, PV.int IntKind.i64 0, PV.int IntKind.i64 0]))
    show hget _ _ = HObj.pcells ([PV.int IntKind.i64 0, PV.int IntKind.i64 0, PV.int IntKind.i64 0])
    simpa using this
  · rw [List.append_assoc, List.append_assoc]; exact Kp.app _ _
  · show AV.ptr (H ++ [HObj.cells (pdh p id cap)]).length 0 = _
    rw [List.length_append]; rfl
  · show AV.ptr (H ++ [HObj.cells (pdh p id cap)] ++ [HObj.pcells ([PV.int IntKind.i64 0, PV.int IntKind.i64 0, PV.int IntKind.i64 0])]).length 0 = _
    rw [List.length_append, List.length_append]; rfl
theorem rsums_ok (u : AV) (p : Pd) (hl : p.l.length ≤ 1000) (H : Heap) (hu : PA u H p) : Has (EE env (.fn 33) [u] H) (fun y => y.1 = .pv (sum3 p.l) ∧ Kp H y.2) := by
  rcases hu with ⟨x, rfl⟩ | ⟨id, cap, rfl, hid⟩
  · exact rsums_plain x p hl H
  · exact rsums_hs id cap p hl H hid
end Go.Proofs.YtmickbidffdklaaDoor

namespace Go.Proofs.YtmickbidffdklaaDoor
open Go Go.VM

def isZ (c : Ct) : Prop := c.rq.c = 0 ∧ c.lm.c = 0 ∧ c.rq.m = 0 ∧ c.lm.m = 0
instance (c : Ct) : Decidable (isZ c) := by unfold isZ; infer_instance
def isG (c : Ct) : Prop := c.rq.c = c.lm.c ∧ c.rq.m = c.lm.m ∧ c.rq.c ≠ 0 ∧ c.rq.m ≠ 0
instance (c : Ct) : Decidable (isG c) := by unfold isG; infer_instance
def classI (l : List Ct) : Int := if ∀ c ∈ l, isZ c then 2 else if ∀ c ∈ l, isG c then 0 else 1
theorem all_step {p : Ct → Prop} {l : List Ct} {i : Nat} {c : Ct} (h : l[i]? = some c) : (∀ d ∈ l.take (i + 1), p d) ↔ (∀ d ∈ l.take i, p d) ∧ p c := by
  rw [List.take_add_one, h]
  constructor
  · exact fun h => ⟨fun d hd => h d (List.mem_append_left _ hd), h c (List.mem_append_right _ (by simp))⟩
  · rintro ⟨h1, h2⟩ d hd
    rcases List.mem_append.1 hd with hd | hd
    · exact h1 d hd
    · simp at hd; subst hd; exact h2
def dG (l : List Ct) : Bool := decide (∀ d ∈ l, isG d)
def dZ (l : List Ct) : Bool := decide (∀ d ∈ l, isZ d)
theorem dG_step {l : List Ct} {i : Nat} {c : Ct} (h : l[i]? = some c) : dG (l.take (i + 1)) = (dG (l.take i) && decide (isG c)) := by
  unfold dG; rw [Bool.eq_iff_iff, Bool.and_eq_true, decide_eq_true_iff, decide_eq_true_iff, decide_eq_true_iff]; exact all_step h
theorem dZ_step {l : List Ct} {i : Nat} {c : Ct} (h : l[i]? = some c) : dZ (l.take (i + 1)) = (dZ (l.take i) && decide (isZ c)) := by
  unfold dZ; rw [Bool.eq_iff_iff, Bool.and_eq_true, decide_eq_true_iff, decide_eq_true_iff, decide_eq_true_iff]; exact all_step h
end Go.Proofs.YtmickbidffdklaaDoor

namespace Go.Proofs.YtmickbidffdklaaDoor
open Go Go.VM

end Go.Proofs.YtmickbidffdklaaDoor

namespace Go.Proofs.YtmickbidffdklaaDoor
open Go Go.VM

def podP (p : Pd) : Prop := nameB p.name = true ∧ (-1000 ≤ p.prio ∧ p.prio ≤ 1000) ∧ (0 ≤ p.pol ∧ p.pol ≤ 2) ∧ (1 ≤ p.l.length ∧ p.l.length ≤ 6) ∧ (∀ (i : Nat) (c : Ct), p.l[i]? = some c → findI c.name p.l = (i : Int) ∧ cP c) ∧ (sumV (rqs p.l)).isSome = true ∧ (sumV (lms p.l)).isSome = true
noncomputable instance (p : Pd) : Decidable (podP p) := Classical.propDecidable _
theorem findF_mem {name : List UInt8} : ∀ (l : List Ct) (i : Nat) (c : Ct), c ∈ l → c.name = name → 0 ≤ findF name i l := by
  intro l
  induction l with
  | nil => intro i c h; cases h
  | cons d l ih =>
    intro i c h hn
    unfold findF
    split
    · omega
    · rename_i hd
      rcases List.mem_cons.1 h with rfl | h
      · exact absurd hn hd
      · exact ih _ c h hn
/-- What can be read of a pod. -/
def small (p : Pd) : Prop := p.name.length ≤ maxLen ∧ p.l.length ≤ maxLen ∧ ∀ c ∈ p.l, c.name.length ≤ maxLen
set_option maxRecDepth 20000 in
set_option maxHeartbeats 4000000 in
theorem pod_plain (x : Ext) (p : Pd) (hs : small p) (H : Heap) :
    Has (EE env (.fn 30) [.pv (.agg (pdc p x))] H) (fun y => y.1 = .pv (.bool (decide (podP p))) ∧ Kp H y.2) := by
  obtain ⟨hs1, hs2, hs3⟩ := hs
  have hl := hs2
  rw [maxLen_eq] at hl
  have k1 := hget_append_same H (HObj.pcells (pdc p x))
  have hK := Kp.app H [HObj.pcells (pdc p x)]
  refine EE_has ?_
  refine hgetK_has _ k1 ?_
  refine getK_has rfl ?_
  refine hgetK_has _ k1 ?_
  refine getK_has rfl ?_
  have bad : ∀ {G : Heap}, Kp H G → ¬ podP p → (fun y : AV × Heap => y.1 = .pv (.bool (decide (podP p))) ∧ Kp H y.2) (AV.pv (.bool false), G) := fun hK h => ⟨congrArg AV.pv (no (p := podP p) h), hK⟩
  refine callPK_dec (name_dec p.name hs1) (fun h1 => ?_) (fun h1 => ?_)
  rotate_left
  · exact Has.intro (bad hK fun h => h1 h.1)
  refine hgetK_has _ k1 ?_
  refine getK_has rfl ?_
  refine boolK_dec (fun h2 => ?_) (fun h2 => ?_)
  · exact Has.intro (bad hK fun h => by have := h.2.1; omega)
  refine hgetK_has _ k1 ?_
  refine getK_has rfl ?_
  refine boolK_dec (fun h3 => ?_) (fun h3 => ?_)
  · exact Has.intro (bad hK fun h => by have := h.2.1; omega)
  refine hgetK_has _ k1 ?_
  refine getK_has rfl ?_
  refine boolK_dec (fun h4 => ?_) (fun h4 => ?_)
  · exact Has.intro (bad hK fun h => by have := h.2.2.1; omega)
  refine hgetK_has _ k1 ?_
  refine getK_has rfl ?_
  refine boolK_dec (fun h5 => ?_) (fun h5 => ?_)
  · exact Has.intro (bad hK fun h => by have := h.2.2.1; omega)
  refine boolK_dec (fun h6 => ?_) (fun h6 => ?_)
  · exact Has.intro (bad hK fun h => by have := h.2.2.2.1; omega)
  refine boolK_dec (fun h7 => ?_) (fun h7 => ?_)
  · exact Has.intro (bad hK fun h => by have := h.2.2.2.1; omega)
  refine hgetK_has _ k1 ?_
  refine getK_has rfl ?_
  refine loopK_has ?_
  refine iterE_loop (σ := Nat × Heap) (fun s => p.l.length - s.1) (fun s => [(1, .ptr H.length 0), (47, .pv (.sl x p.l.length (flat ct p.l))), (48, .pv (.int .i64 p.l.length)), (49, .pv (.int .i64 s.1))]) (fun s => s.2)
    (fun s => s.1 ≤ p.l.length ∧ Kp H s.2 ∧ hget s.2 H.length = .pcells (pdc p x) ∧ ∀ (j : Nat) (c : Ct), j < s.1 → p.l[j]? = some c → findI c.name p.l = (j : Int) ∧ cP c) (fun ⟨i, G⟩ ⟨hi, hK, k1, hA⟩ r => ?_) (0, _) ⟨Nat.zero_le _, hK, k1, fun j c h => by omega⟩ ⟨rfl, rfl, rfl, rfl, trivial⟩ rfl
  dsimp only at hi hK k1 hA ⊢
  refine boolK_dec (fun hc => ?_) (fun hc => ?_)
  · have hlt : i < p.l.length := by omega
    obtain ⟨c, hcg⟩ : ∃ c, p.l[i]? = some c := ⟨_, List.getElem?_eq_getElem hlt⟩
    obtain ⟨g1, g2⟩ := flat_get ct_len hcg
    have hmem : c ∈ p.l := List.mem_of_getElem? hcg
    refine needK_has (by (first | rfl | (simp; done) | (simp; omega))) ?_
    refine secK_has g1 g2 ?_
    refine hgetK_last ?_
    refine needK_has rfl ?_
    refine eqK_has_eq (ct c) rfl ?_
    have k5 := hget_hset_same (H := G ++ [HObj.pcells ([PV.str ⟨#[]⟩, PV.int IntKind.i64 0, PV.int IntKind.i64 0, PV.int IntKind.i64 0, PV.int IntKind.i64 0, PV.int IntKind.i64 0, PV.int IntKind.i64 0, PV.bool false, PV.bool false, PV.bool false])]) (id := G.length) (.pcells (ct c)) (by simp)
    have k1 := keep2 (.pcells ([PV.str ⟨#[]⟩, PV.int IntKind.i64 0, PV.int IntKind.i64 0, PV.int IntKind.i64 0, PV.int IntKind.i64 0, PV.int IntKind.i64 0, PV.int IntKind.i64 0, PV.bool false, PV.bool false, PV.bool false])) (.pcells (ct c)) k1 ((by intro h; cases h))
    have hK := hK.trans (Kp.box G (.pcells ([PV.str ⟨#[]⟩, PV.int IntKind.i64 0, PV.int IntKind.i64 0, PV.int IntKind.i64 0, PV.int IntKind.i64 0, PV.int IntKind.i64 0, PV.int IntKind.i64 0, PV.bool false, PV.bool false, PV.bool false])) (.pcells (ct c)))
    generalize hset (G ++ [HObj.pcells ([PV.str ⟨#[]⟩, PV.int IntKind.i64 0, PV.int IntKind.i64 0, PV.int IntKind.i64 0, PV.int IntKind.i64 0, PV.int IntKind.i64 0, PV.int IntKind.i64 0, PV.bool false, PV.bool false, PV.bool false])]) G.length (.pcells (ct c)) = G at *
    refine hgetK_has _ k1 ?_
    refine secK_has (v := pdc p x) rfl (of_decide_eq_true rfl) ?_
    refine hgetK_has _ k5 ?_
    refine getK_has rfl ?_
    refine callSK_has' ((find_ok _ p hs2 c.name G (.inl ⟨x, rfl⟩)).mono fun y hy => ?_)
    obtain ⟨v, H'⟩ := y
    obtain ⟨rfl, J, rfl⟩ := hy
    have k5 := (hget_app J (hget_lt k5 ((by intro h; cases h)))).trans k5
    have k1 := (hget_app J (hget_lt k1 ((by intro h; cases h)))).trans k1
    have hK := hK.trans (Kp.app G J)
    generalize G ++ J = G at *
    have hf := findF_mem p.l 0 c hmem rfl
    have hff : findI c.name p.l = findF c.name 0 p.l := rfl
    rw [← hff] at hf
    refine boolK_bne (fun h8 => ?_) (fun h8 => ?_)
    · refine Has.intro (Has.intro (bad hK fun h => ?_))
      have := (h.2.2.2.2.1 i c hcg).1
      rw [if_neg (by omega)] at h8
      exact h8 this
    · rw [if_neg (by omega)] at h8
      refine hgetK_has _ k5 ?_
      refine secK_has (v := ct c) rfl (of_decide_eq_true rfl) ?_
      refine callPK_dec (ctr_ok c (hs3 c hmem)) (fun h9 => ?_) (fun h9 => ?_)
      · refine eqK_has_eq _ (i64_succ (by omega)) ?_
        refine Has.intro ⟨(i + 1, G), ⟨hlt, hK, k1, fun j d hj hd => ?_⟩, (by dsimp only; omega), ⟨rfl, rfl, rfl, rfl, trivial⟩, rfl⟩
        dsimp only at hj
        by_cases e : j = i
        · subst e
          rw [hcg] at hd; injection hd with hd; subst hd
          exact ⟨h8, h9⟩
        · exact hA j d (by omega) hd
      · exact Has.intro (Has.intro (bad hK fun h => h9 (h.2.2.2.2.1 i c hcg).2))
  · have : i = p.l.length := by omega
    subst this
    refine Has.intro ?_
    refine hgetK_has _ k1 ?_
    refine secK_has (v := pdc p x) rfl (of_decide_eq_true rfl) ?_
    refine callSK_has' ((sums_ok _ p (by omega) G (.inl ⟨x, rfl⟩)).mono fun y hy => ?_)
    obtain ⟨v, H'⟩ := y
    obtain ⟨rfl, hK2⟩ := hy
    have hK := hK.trans hK2
    dsimp only at hK ⊢
    refine hgetK_has (.pcells ([PV.int IntKind.i64 0, PV.int IntKind.i64 0, PV.int IntKind.i64 0])) ((hget_app _ (by simp)).trans (hget_append_same H' _)) ?_
    refine needK_has rfl ?_
    refine eqK_has ?_
    refine hgetK_has (.pcells ([PV.int IntKind.i64 0, PV.int IntKind.i64 0, PV.int IntKind.i64 0])) ((hget_hset_ne _ _ (by simp)).trans (hget_append_same _ _)) ?_
    refine needK_has rfl ?_
    refine eqK_has ?_
    refine Has.intro ⟨?_, ((hK.trans ((Kp.app H' [HObj.pcells ([PV.int IntKind.i64 0, PV.int IntKind.i64 0, PV.int IntKind.i64 0])]).trans (Kp.app _ [HObj.pcells ([PV.int IntKind.i64 0, PV.int IntKind.i64 0, PV.int IntKind.i64 0])]))).set _ hK.1).set _ (by have := hK.1; simp; omega)⟩
    show AV.pv (PV.bool ((sumV (rqs p.l)).isSome && (sumV (lms p.l)).isSome)) = _
    congr 2
    rw [Bool.eq_iff_iff, Bool.and_eq_true, decide_eq_true_iff]
    exact ⟨fun h => ⟨h1, by omega, by omega, by omega, fun j c hj => hA j c (List.getElem?_eq_some_iff.1 hj).1 hj, h.1, h.2⟩, fun h => ⟨h.2.2.2.2.2.1, h.2.2.2.2.2.2⟩⟩
set_option maxRecDepth 20000 in
set_option maxHeartbeats 4000000 in
theorem pod_hs (id cap : Nat) (p : Pd) (hs : small p) (H : Heap) (hid : hget H id = .pcells (flat ct p.l)) :
    Has (EE env (.fn 30) [.agg (pdh p id cap)] H) (fun y => y.1 = .pv (.bool (decide (podP p))) ∧ Kp H y.2) := by
  obtain ⟨hs1, hs2, hs3⟩ := hs
  have hl := hs2
  rw [maxLen_eq] at hl
  have k1 := hget_append_same H (HObj.cells (pdh p id cap))
  have hK := Kp.app H [HObj.cells (pdh p id cap)]
  refine EE_has ?_
  refine hgetK_has _ k1 ?_
  refine hgetK_has _ k1 ?_
  have bad : ∀ {G : Heap}, Kp H G → ¬ podP p → (fun y : AV × Heap => y.1 = .pv (.bool (decide (podP p))) ∧ Kp H y.2) (AV.pv (.bool false), G) := fun hK h => ⟨congrArg AV.pv (no (p := podP p) h), hK⟩
  refine callPK_dec (name_dec p.name hs1) (fun h1 => ?_) (fun h1 => ?_)
  rotate_left
  · exact Has.intro (bad hK fun h => h1 h.1)
  refine hgetK_has _ k1 ?_
  refine boolK_dec (fun h2 => ?_) (fun h2 => ?_)
  · exact Has.intro (bad hK fun h => by have := h.2.1; omega)
  refine hgetK_has _ k1 ?_
  refine boolK_dec (fun h3 => ?_) (fun h3 => ?_)
  · exact Has.intro (bad hK fun h => by have := h.2.1; omega)
  refine hgetK_has _ k1 ?_
  refine boolK_dec (fun h4 => ?_) (fun h4 => ?_)
  · exact Has.intro (bad hK fun h => by have := h.2.2.1; omega)
  refine hgetK_has _ k1 ?_
  refine boolK_dec (fun h5 => ?_) (fun h5 => ?_)
  · exact Has.intro (bad hK fun h => by have := h.2.2.1; omega)
  refine boolK_dec (fun h6 => ?_) (fun h6 => ?_)
  · exact Has.intro (bad hK fun h => by have := h.2.2.2.1; omega)
  refine boolK_dec (fun h7 => ?_) (fun h7 => ?_)
  · exact Has.intro (bad hK fun h => by have := h.2.2.2.1; omega)
  refine hgetK_has _ k1 ?_
  refine loopK_has ?_
  refine iterE_loop (σ := Nat × Heap) (fun s => p.l.length - s.1) (fun s => [(1, .ptr H.length 0), (47, .hs 10 id 0 p.l.length cap), (48, .pv (.int .i64 p.l.length)), (49, .pv (.int .i64 s.1))]) (fun s => s.2)
    (fun s => s.1 ≤ p.l.length ∧ Kp H s.2 ∧ hget s.2 H.length = .cells (pdh p id cap) ∧ ∀ (j : Nat) (c : Ct), j < s.1 → p.l[j]? = some c → findI c.name p.l = (j : Int) ∧ cP c) (fun ⟨i, G⟩ ⟨hi, hK, k1, hA⟩ r => ?_) (0, _) ⟨Nat.zero_le _, hK, k1, fun j c h => by omega⟩ ⟨rfl, rfl, rfl, rfl, trivial⟩ rfl
  dsimp only at hi hK k1 hA ⊢
  refine boolK_dec (fun hc => ?_) (fun hc => ?_)
  · have hlt : i < p.l.length := by omega
    obtain ⟨c, hcg⟩ : ∃ c, p.l[i]? = some c := ⟨_, List.getElem?_eq_getElem hlt⟩
    obtain ⟨g1, g2⟩ := flat_get ct_len hcg
    have hmem : c ∈ p.l := List.mem_of_getElem? hcg
    refine needK_has (by (first | rfl | (simp; done) | (simp; omega))) ?_
    refine hgetK_has _ (hK.2 _ _ hid ((by intro h; cases h)) ((fun _ _ h => by cases h))) ?_
    refine secK_has (v := ct c) (by rw [at10]; exact g1) (by rw [at10]; exact g2) ?_
    refine hgetK_last ?_
    refine needK_has rfl ?_
    refine eqK_has_eq (ct c) rfl ?_
    have k5 := hget_hset_same (H := G ++ [HObj.pcells ([PV.str ⟨#[]⟩, PV.int IntKind.i64 0, PV.int IntKind.i64 0, PV.int IntKind.i64 0, PV.int IntKind.i64 0, PV.int IntKind.i64 0, PV.int IntKind.i64 0, PV.bool false, PV.bool false, PV.bool false])]) (id := G.length) (.pcells (ct c)) (by simp)
    have k1 := keep2 (.pcells ([PV.str ⟨#[]⟩, PV.int IntKind.i64 0, PV.int IntKind.i64 0, PV.int IntKind.i64 0, PV.int IntKind.i64 0, PV.int IntKind.i64 0, PV.int IntKind.i64 0, PV.bool false, PV.bool false, PV.bool false])) (.pcells (ct c)) k1 ((by intro h; cases h))
    have hK := hK.trans (Kp.box G (.pcells ([PV.str ⟨#[]⟩, PV.int IntKind.i64 0, PV.int IntKind.i64 0, PV.int IntKind.i64 0, PV.int IntKind.i64 0, PV.int IntKind.i64 0, PV.int IntKind.i64 0, PV.bool false, PV.bool false, PV.bool false])) (.pcells (ct c)))
    generalize hset (G ++ [HObj.pcells ([PV.str ⟨#[]⟩, PV.int IntKind.i64 0, PV.int IntKind.i64 0, PV.int IntKind.i64 0, PV.int IntKind.i64 0, PV.int IntKind.i64 0, PV.int IntKind.i64 0, PV.bool false, PV.bool false, PV.bool false])]) G.length (.pcells (ct c)) = G at *
    refine hgetK_has _ k1 ?_
    refine hgetK_has _ k5 ?_
    refine getK_has rfl ?_
    refine callSK_has' ((find_ok _ p hs2 c.name G (.inr ⟨id, cap, rfl, hK.2 _ _ hid ((by intro h; cases h)) ((fun _ _ h => by cases h))⟩)).mono fun y hy => ?_)
    obtain ⟨v, H'⟩ := y
    obtain ⟨rfl, J, rfl⟩ := hy
    have k5 := (hget_app J (hget_lt k5 ((by intro h; cases h)))).trans k5
    have k1 := (hget_app J (hget_lt k1 ((by intro h; cases h)))).trans k1
    have hK := hK.trans (Kp.app G J)
    generalize G ++ J = G at *
    have hf := findF_mem p.l 0 c hmem rfl
    have hff : findI c.name p.l = findF c.name 0 p.l := rfl
    rw [← hff] at hf
    refine boolK_bne (fun h8 => ?_) (fun h8 => ?_)
    · refine Has.intro (Has.intro (bad hK fun h => ?_))
      have := (h.2.2.2.2.1 i c hcg).1
      rw [if_neg (by omega)] at h8
      exact h8 this
    · rw [if_neg (by omega)] at h8
      refine hgetK_has _ k5 ?_
      refine secK_has (v := ct c) rfl (of_decide_eq_true rfl) ?_
      refine callPK_dec (ctr_ok c (hs3 c hmem)) (fun h9 => ?_) (fun h9 => ?_)
      · refine eqK_has_eq _ (i64_succ (by omega)) ?_
        refine Has.intro ⟨(i + 1, G), ⟨hlt, hK, k1, fun j d hj hd => ?_⟩, (by dsimp only; omega), ⟨rfl, rfl, rfl, rfl, trivial⟩, rfl⟩
        dsimp only at hj
        by_cases e : j = i
        · subst e
          rw [hcg] at hd; injection hd with hd; subst hd
          exact ⟨h8, h9⟩
        · exact hA j d (by omega) hd
      · exact Has.intro (Has.intro (bad hK fun h => h9 (h.2.2.2.2.1 i c hcg).2))
  · have : i = p.l.length := by omega
    subst this
    refine Has.intro ?_
    refine hgetK_has _ k1 ?_
    refine callSK_has' ((sums_ok _ p (by omega) G (.inr ⟨id, cap, rfl, hK.2 _ _ hid ((by intro h; cases h)) ((fun _ _ h => by cases h))⟩)).mono fun y hy => ?_)
    obtain ⟨v, H'⟩ := y
    obtain ⟨rfl, hK2⟩ := hy
    have hK := hK.trans hK2
    dsimp only at hK ⊢
    refine hgetK_has (.pcells ([PV.int IntKind.i64 0, PV.int IntKind.i64 0, PV.int IntKind.i64 0])) ((hget_app _ (by simp)).trans (hget_append_same H' _)) ?_
    refine needK_has rfl ?_
    refine eqK_has ?_
    refine hgetK_has (.pcells ([PV.int IntKind.i64 0, PV.int IntKind.i64 0, PV.int IntKind.i64 0])) ((hget_hset_ne _ _ (by simp)).trans (hget_append_same _ _)) ?_
    refine needK_has rfl ?_
    refine eqK_has ?_
    refine Has.intro ⟨?_, ((hK.trans ((Kp.app H' [HObj.pcells ([PV.int IntKind.i64 0, PV.int IntKind.i64 0, PV.int IntKind.i64 0])]).trans (Kp.app _ [HObj.pcells ([PV.int IntKind.i64 0, PV.int IntKind.i64 0, PV.int IntKind.i64 0])]))).set _ hK.1).set _ (by have := hK.1; simp; omega)⟩
    show AV.pv (PV.bool ((sumV (rqs p.l)).isSome && (sumV (lms p.l)).isSome)) = _
    congr 2
    rw [Bool.eq_iff_iff, Bool.and_eq_true, decide_eq_true_iff]
    exact ⟨fun h => ⟨h1, by omega, by omega, by omega, fun j c hj => hA j c (List.getElem?_eq_some_iff.1 hj).1 hj, h.1, h.2⟩, fun h => ⟨h.2.2.2.2.2.1, h.2.2.2.2.2.2⟩⟩
theorem pod_ok (u : AV) (p : Pd) (hs : small p) (H : Heap) (hu : PA u H p) : Has (EE env (.fn 30) [u] H) (fun y => y.1 = .pv (.bool (decide (podP p))) ∧ Kp H y.2) := by
  rcases hu with ⟨x, rfl⟩ | ⟨id, cap, rfl, hid⟩
  · exact pod_plain x p hs H
  · exact pod_hs id cap p hs H hid
end Go.Proofs.YtmickbidffdklaaDoor

namespace Go.Proofs.YtmickbidffdklaaDoor
open Go Go.VM

theorem flat10 {l : List Ct} {i : Nat} (h : i ≤ l.length) : ((flat ct l).drop (mulE 0 10)).take (mulE (((i : Nat) : Int).toNat - 0) 10) = flat ct (l.take i) := by
  show ((flat ct l).drop 0).take (i * 10) = _
  rw [List.drop_zero]
  conv => lhs; rw [← List.take_append_drop i l, ← flat_app]
  have hl : (flat ct (l.take i)).length = i * 10 := by rw [flat_len ct_len, List.length_take]; congr 1; omega
  rw [List.take_append_of_le_length (by omega), List.take_of_length_le (by omega)]
/-- What a list becomes by an append to one that was just made. -/
theorem findF_first {name : List UInt8} : ∀ (l : List Ct) (k i : Nat) (c : Ct), l[i]? = some c → c.name = name → (∀ (j : Nat) (d : Ct), j < i → l[j]? = some d → d.name ≠ name) → findF name k l = ((k + i : Nat) : Int) := by
  intro l
  induction l with
  | nil => intro k i c h; simp at h
  | cons d l ih =>
    intro k i c h hn ha
    unfold findF
    cases i with
    | zero =>
      simp at h; subst h
      rw [if_pos hn]; rfl
    | succ i =>
      rw [if_neg (ha 0 d (by omega) rfl)]
      simp at h
      rw [ih (k + 1) i c h hn (fun j e hj he => ha (j + 1) e (by omega) (by simpa using he))]
      congr 1; omega
theorem findF_early {name : List UInt8} : ∀ (l : List Ct) (k j : Nat) (d : Ct), l[j]? = some d → d.name = name → findF name k l ≤ ((k + j : Nat) : Int) := by
  intro l
  induction l with
  | nil => intro k i c h; simp at h
  | cons d l ih =>
    intro k j e h hn
    unfold findF
    split
    · omega
    · rename_i hd
      cases j with
      | zero => simp at h; subst h; exact absurd hn hd
      | succ j =>
        simp at h
        have := ih (k + 1) j e h hn
        omega
set_option maxRecDepth 20000 in
set_option maxHeartbeats 4000000 in
theorem rpod_plain (x : Ext) (p : Pd) (hs : small p) (H : Heap) :
    Has (EE env (.fn 25) [.pv (.agg (pdc p x))] H) (fun y => y.1 = .pv (.bool (decide (podP p))) ∧ Kp H y.2) := by
  obtain ⟨hs1, hs2, hs3⟩ := hs
  have hl := hs2
  rw [maxLen_eq] at hl
  have k1 := hget_append_same H (HObj.pcells (pdc p x))
  have hK := Kp.app H [HObj.pcells (pdc p x)]
  refine EE_has ?_
  refine hgetK_has _ k1 ?_
  refine getK_has rfl ?_
  have bad : ∀ {G : Heap}, Kp H G → ¬ podP p → (fun y : AV × Heap => y.1 = .pv (.bool (decide (podP p))) ∧ Kp H y.2) (AV.pv (.bool false), G) := fun hK h => ⟨congrArg AV.pv (no (p := podP p) h), hK⟩
  refine callPK_dec (rname_dec p.name hs1) (fun h1 => ?_) (fun h1 => ?_)
  rotate_left
  · exact Has.intro (bad hK fun h => h1 h.1)
  refine hgetK_has _ k1 ?_
  refine getK_has rfl ?_
  refine boolK_dec (fun h2 => ?_) (fun h2 => ?_)
  · exact Has.intro (bad hK fun h => by have := h.2.1; omega)
  refine hgetK_has _ k1 ?_
  refine getK_has rfl ?_
  refine boolK_dec (fun h3 => ?_) (fun h3 => ?_)
  · exact Has.intro (bad hK fun h => by have := h.2.1; omega)
  refine hgetK_has _ k1 ?_
  refine getK_has rfl ?_
  refine boolK_dec (fun h4 => ?_) (fun h4 => ?_)
  · exact Has.intro (bad hK fun h => by have := h.2.2.1; omega)
  refine hgetK_has _ k1 ?_
  refine getK_has rfl ?_
  refine boolK_dec (fun h5 => ?_) (fun h5 => ?_)
  · exact Has.intro (bad hK fun h => by have := h.2.2.1; omega)
  refine hgetK_has _ k1 ?_
  refine getK_has rfl ?_
  refine boolK_dec (fun h6 => ?_) (fun h6 => ?_)
  · exact Has.intro (bad hK fun h => by have := h.2.2.2.1; omega)
  refine hgetK_has _ k1 ?_
  refine getK_has rfl ?_
  refine boolK_dec (fun h7 => ?_) (fun h7 => ?_)
  · exact Has.intro (bad hK fun h => by have := h.2.2.2.1; omega)
  refine hgetK_has _ k1 ?_
  refine getK_has rfl ?_
  refine loopK_has ?_
  refine iterE_loop (σ := Nat × Heap) (fun s => p.l.length - s.1) (fun s => [(1, .ptr H.length 0), (47, .pv (.sl x p.l.length (flat ct p.l))), (48, .pv (.int .i64 p.l.length)), (49, .pv (.int .i64 s.1))]) (fun s => s.2)
    (fun s => s.1 ≤ p.l.length ∧ Kp H s.2 ∧ hget s.2 H.length = .pcells (pdc p x) ∧ ∀ (j : Nat) (c : Ct), j < s.1 → p.l[j]? = some c → findI c.name p.l = (j : Int) ∧ cP c) (fun ⟨i, G⟩ ⟨hi, hK, k1, hA⟩ r => ?_) (0, _) ⟨Nat.zero_le _, hK, k1, fun j c h => by omega⟩ ⟨rfl, rfl, rfl, rfl, trivial⟩ rfl
  dsimp only at hi hK k1 hA ⊢
  refine boolK_dec (fun hc => ?_) (fun hc => ?_)
  · have hlt : i < p.l.length := by omega
    obtain ⟨c, hcg⟩ : ∃ c, p.l[i]? = some c := ⟨_, List.getElem?_eq_getElem hlt⟩
    obtain ⟨g1, g2⟩ := flat_get ct_len hcg
    have hmem : c ∈ p.l := List.mem_of_getElem? hcg
    refine needK_has (by (first | rfl | (simp; done) | (simp; omega))) ?_
    refine secK_has g1 g2 ?_
    refine hgetK_last ?_
    refine needK_has rfl ?_
    refine eqK_has_eq (ct c) rfl ?_
    obtain ⟨q, hq⟩ : ∃ q, q = G.length := ⟨_, rfl⟩
    have k5 := hget_hset_same (H := G ++ [HObj.pcells ([PV.str ⟨#[]⟩, PV.int IntKind.i64 0, PV.int IntKind.i64 0, PV.int IntKind.i64 0, PV.int IntKind.i64 0, PV.int IntKind.i64 0, PV.int IntKind.i64 0, PV.bool false, PV.bool false, PV.bool false])]) (id := G.length) (.pcells (ct c)) (by simp)
    have k1 := keep2 (.pcells ([PV.str ⟨#[]⟩, PV.int IntKind.i64 0, PV.int IntKind.i64 0, PV.int IntKind.i64 0, PV.int IntKind.i64 0, PV.int IntKind.i64 0, PV.int IntKind.i64 0, PV.bool false, PV.bool false, PV.bool false])) (.pcells (ct c)) k1 ((by intro h; cases h))
    have hK := hK.trans (Kp.box G (.pcells ([PV.str ⟨#[]⟩, PV.int IntKind.i64 0, PV.int IntKind.i64 0, PV.int IntKind.i64 0, PV.int IntKind.i64 0, PV.int IntKind.i64 0, PV.int IntKind.i64 0, PV.bool false, PV.bool false, PV.bool false])) (.pcells (ct c)))
    generalize hset (G ++ [HObj.pcells ([PV.str ⟨#[]⟩, PV.int IntKind.i64 0, PV.int IntKind.i64 0, PV.int IntKind.i64 0, PV.int IntKind.i64 0, PV.int IntKind.i64 0, PV.int IntKind.i64 0, PV.bool false, PV.bool false, PV.bool false])]) G.length (.pcells (ct c)) = G at *
    rw [← hq] at k5 ⊢
    refine hgetK_has _ k5 ?_
    refine secK_has (v := ct c) rfl (of_decide_eq_true rfl) ?_
    refine callPK_dec (rctr_ok c (hs3 c hmem)) (fun h9 => ?_) (fun h9 => ?_)
    rotate_left
    · exact Has.intro (Has.intro (bad hK fun h => h9 (h.2.2.2.2.1 i c hcg).2))
    refine hgetK_has _ k1 ?_
    refine getK_has rfl ?_
    refine needK_has (by (first | rfl | (simp; done) | (simp; omega))) ?_
    refine eqK_has_eq (flat ct (p.l.take i)) (flat10 hi) ?_
    refine loopK_has ?_
    refine iterE_loop (σ := Nat × Heap) (fun s => i - s.1) (fun s => [(1, .ptr H.length 0), (4, .ptr q 0), (47, .pv (.sl x p.l.length (flat ct p.l))), (48, .pv (.int .i64 p.l.length)), (49, .pv (.int .i64 i)), (60, .pv (.sl (x.part false false) i (flat ct (p.l.take i)))), (61, .pv (.int .i64 i)), (62, .pv (.int .i64 s.1))]) (fun s => s.2)
      (fun s => s.1 ≤ i ∧ Kp H s.2 ∧ hget s.2 H.length = .pcells (pdc p x) ∧ hget s.2 q = .pcells (ct c) ∧ ∀ (j : Nat) (d : Ct), j < s.1 → p.l[j]? = some d → d.name ≠ c.name) (fun ⟨m, G⟩ ⟨hm, hK, k1, k5, hB⟩ r => ?_) (0, _) ⟨Nat.zero_le _, hK, k1, k5, fun j d h => by omega⟩ ⟨rfl, rfl, rfl, rfl, rfl, rfl, rfl, rfl, trivial⟩ rfl
    dsimp only at hm hK k1 k5 hB ⊢
    refine boolK_dec (fun hc2 => ?_) (fun hc2 => ?_)
    · have hlt2 : m < i := by omega
      obtain ⟨d, hdg⟩ : ∃ d, p.l[m]? = some d := ⟨_, List.getElem?_eq_getElem (show m < p.l.length by omega)⟩
      have hdt : (p.l.take i)[m]? = some d := by rw [List.getElem?_take_of_lt hlt2]; exact hdg
      obtain ⟨f1, f2⟩ := flat_get ct_len hdt
      refine needK_has (by (first | rfl | (simp; done) | (simp; omega))) ?_
      refine secK_has f1 f2 ?_
      refine hgetK_last ?_
      refine needK_has rfl ?_
      refine eqK_has_eq (ct d) rfl ?_
      have k6 := hget_hset_same (H := G ++ [HObj.pcells ([PV.str ⟨#[]⟩, PV.int IntKind.i64 0, PV.int IntKind.i64 0, PV.int IntKind.i64 0, PV.int IntKind.i64 0, PV.int IntKind.i64 0, PV.int IntKind.i64 0, PV.bool false, PV.bool false, PV.bool false])]) (id := G.length) (.pcells (ct d)) (by simp)
      have k5 := keep2 (.pcells ([PV.str ⟨#[]⟩, PV.int IntKind.i64 0, PV.int IntKind.i64 0, PV.int IntKind.i64 0, PV.int IntKind.i64 0, PV.int IntKind.i64 0, PV.int IntKind.i64 0, PV.bool false, PV.bool false, PV.bool false])) (.pcells (ct d)) k5 ((by intro h; cases h))
      have k1 := keep2 (.pcells ([PV.str ⟨#[]⟩, PV.int IntKind.i64 0, PV.int IntKind.i64 0, PV.int IntKind.i64 0, PV.int IntKind.i64 0, PV.int IntKind.i64 0, PV.int IntKind.i64 0, PV.bool false, PV.bool false, PV.bool false])) (.pcells (ct d)) k1 ((by intro h; cases h))
      have hK := hK.trans (Kp.box G (.pcells ([PV.str ⟨#[]⟩, PV.int IntKind.i64 0, PV.int IntKind.i64 0, PV.int IntKind.i64 0, PV.int IntKind.i64 0, PV.int IntKind.i64 0, PV.int IntKind.i64 0, PV.bool false, PV.bool false, PV.bool false])) (.pcells (ct d)))
      generalize hset (G ++ [HObj.pcells ([PV.str ⟨#[]⟩, PV.int IntKind.i64 0, PV.int IntKind.i64 0, PV.int IntKind.i64 0, PV.int IntKind.i64 0, PV.int IntKind.i64 0, PV.int IntKind.i64 0, PV.bool false, PV.bool false, PV.bool false])]) G.length (.pcells (ct d)) = G at *
      refine hgetK_has _ k5 ?_
      refine getK_has rfl ?_
      refine hgetK_has _ k6 ?_
      refine getK_has rfl ?_
      refine boolK_has_eq (c := decide (c.name = d.name)) (str_beq _ _) ?_
      by_cases hn : c.name = d.name
      · rw [decide_eq_true hn]
        refine Has.intro (Has.intro (Has.intro (bad hK fun h => ?_)))
        have h1 := (h.2.2.2.2.1 i c hcg).1
        have h2 := findF_early p.l 0 m d hdg hn.symm
        have h3 : findI c.name p.l = findF c.name 0 p.l := rfl
        omega
      · rw [decide_eq_false hn]
        refine eqK_has_eq _ (i64_succ (by omega)) ?_
        refine Has.intro ⟨(m + 1, G), ⟨hlt2, hK, k1, k5, fun j e hj he => ?_⟩, (by dsimp only; omega), ⟨rfl, rfl, rfl, rfl, rfl, rfl, rfl, rfl, trivial⟩, rfl⟩
        dsimp only at hj
        by_cases ej : j = m
        · subst ej
          rw [hdg] at he; injection he with he; subst he
          exact fun e => hn e.symm
        · exact hB j e (by omega) he
    · refine Has.intro ?_
      refine eqK_has_eq _ (i64_succ (by omega)) ?_
      refine Has.intro ⟨(i + 1, G), ⟨hlt, hK, k1, fun j d hj hd => ?_⟩, (by dsimp only; omega), ⟨rfl, rfl, rfl, rfl, trivial⟩, rfl⟩
      dsimp only at hj
      by_cases e : j = i
      · subst e
        rw [hcg] at hd; injection hd with hd; subst hd
        refine ⟨?_, h9⟩
        have := findF_first p.l 0 j c hcg rfl (fun m d hm hd => hB m d (by omega) hd)
        rw [Nat.zero_add] at this
        exact this
      · exact hA j d (by omega) hd
  · have : i = p.l.length := by omega
    subst this
    refine Has.intro ?_
    refine hgetK_has _ k1 ?_
    refine secK_has (v := pdc p x) rfl (of_decide_eq_true rfl) ?_
    refine callSK_has' ((rsums_ok _ p (by omega) G (.inl ⟨x, rfl⟩)).mono fun y hy => ?_)
    obtain ⟨v, H'⟩ := y
    obtain ⟨rfl, hK2⟩ := hy
    have hK := hK.trans hK2
    dsimp only at hK ⊢
    refine hgetK_has (.pcells ([PV.int IntKind.i64 0, PV.int IntKind.i64 0, PV.int IntKind.i64 0])) ((hget_app _ (by simp)).trans (hget_append_same H' _)) ?_
    refine needK_has rfl ?_
    refine eqK_has ?_
    refine hgetK_has (.pcells ([PV.int IntKind.i64 0, PV.int IntKind.i64 0, PV.int IntKind.i64 0])) ((hget_hset_ne _ _ (by simp)).trans (hget_append_same _ _)) ?_
    refine needK_has rfl ?_
    refine eqK_has ?_
    refine Has.intro ⟨?_, ((hK.trans ((Kp.app H' [HObj.pcells ([PV.int IntKind.i64 0, PV.int IntKind.i64 0, PV.int IntKind.i64 0])]).trans (Kp.app _ [HObj.pcells ([PV.int IntKind.i64 0, PV.int IntKind.i64 0, PV.int IntKind.i64 0])]))).set _ hK.1).set _ (by have := hK.1; simp; omega)⟩
    show AV.pv (PV.bool ((sumV (rqs p.l)).isSome && (sumV (lms p.l)).isSome)) = _
    congr 2
    rw [Bool.eq_iff_iff, Bool.and_eq_true, decide_eq_true_iff]
    exact ⟨fun h => ⟨h1, by omega, by omega, by omega, fun j c hj => hA j c (List.getElem?_eq_some_iff.1 hj).1 hj, h.1, h.2⟩, fun h => ⟨h.2.2.2.2.2.1, h.2.2.2.2.2.2⟩⟩
set_option maxRecDepth 20000 in
set_option maxHeartbeats 4000000 in
theorem rpod_hs (id cap : Nat) (p : Pd) (hs : small p) (H : Heap) (hid : hget H id = .pcells (flat ct p.l)) :
    Has (EE env (.fn 25) [.agg (pdh p id cap)] H) (fun y => y.1 = .pv (.bool (decide (podP p))) ∧ Kp H y.2) := by
  obtain ⟨hs1, hs2, hs3⟩ := hs
  have hl := hs2
  rw [maxLen_eq] at hl
  have k1 := hget_append_same H (HObj.cells (pdh p id cap))
  have hK := Kp.app H [HObj.cells (pdh p id cap)]
  refine EE_has ?_
  refine hgetK_has _ k1 ?_
  have bad : ∀ {G : Heap}, Kp H G → ¬ podP p → (fun y : AV × Heap => y.1 = .pv (.bool (decide (podP p))) ∧ Kp H y.2) (AV.pv (.bool false), G) := fun hK h => ⟨congrArg AV.pv (no (p := podP p) h), hK⟩
  refine callPK_dec (rname_dec p.name hs1) (fun h1 => ?_) (fun h1 => ?_)
  rotate_left
  · exact Has.intro (bad hK fun h => h1 h.1)
  refine hgetK_has _ k1 ?_
  refine boolK_dec (fun h2 => ?_) (fun h2 => ?_)
  · exact Has.intro (bad hK fun h => by have := h.2.1; omega)
  refine hgetK_has _ k1 ?_
  refine boolK_dec (fun h3 => ?_) (fun h3 => ?_)
  · exact Has.intro (bad hK fun h => by have := h.2.1; omega)
  refine hgetK_has _ k1 ?_
  refine boolK_dec (fun h4 => ?_) (fun h4 => ?_)
  · exact Has.intro (bad hK fun h => by have := h.2.2.1; omega)
  refine hgetK_has _ k1 ?_
  refine boolK_dec (fun h5 => ?_) (fun h5 => ?_)
  · exact Has.intro (bad hK fun h => by have := h.2.2.1; omega)
  refine hgetK_has _ k1 ?_
  refine boolK_dec (fun h6 => ?_) (fun h6 => ?_)
  · exact Has.intro (bad hK fun h => by have := h.2.2.2.1; omega)
  refine hgetK_has _ k1 ?_
  refine boolK_dec (fun h7 => ?_) (fun h7 => ?_)
  · exact Has.intro (bad hK fun h => by have := h.2.2.2.1; omega)
  refine hgetK_has _ k1 ?_
  refine loopK_has ?_
  refine iterE_loop (σ := Nat × Heap) (fun s => p.l.length - s.1) (fun s => [(1, .ptr H.length 0), (47, .hs 10 id 0 p.l.length cap), (48, .pv (.int .i64 p.l.length)), (49, .pv (.int .i64 s.1))]) (fun s => s.2)
    (fun s => s.1 ≤ p.l.length ∧ Kp H s.2 ∧ hget s.2 H.length = .cells (pdh p id cap) ∧ ∀ (j : Nat) (c : Ct), j < s.1 → p.l[j]? = some c → findI c.name p.l = (j : Int) ∧ cP c) (fun ⟨i, G⟩ ⟨hi, hK, k1, hA⟩ r => ?_) (0, _) ⟨Nat.zero_le _, hK, k1, fun j c h => by omega⟩ ⟨rfl, rfl, rfl, rfl, trivial⟩ rfl
  dsimp only at hi hK k1 hA ⊢
  refine boolK_dec (fun hc => ?_) (fun hc => ?_)
  · have hlt : i < p.l.length := by omega
    obtain ⟨c, hcg⟩ : ∃ c, p.l[i]? = some c := ⟨_, List.getElem?_eq_getElem hlt⟩
    obtain ⟨g1, g2⟩ := flat_get ct_len hcg
    have hmem : c ∈ p.l := List.mem_of_getElem? hcg
    refine needK_has (by (first | rfl | (simp; done) | (simp; omega))) ?_
    refine hgetK_has _ (hK.2 _ _ hid ((by intro h; cases h)) ((fun _ _ h => by cases h))) ?_
    refine secK_has (v := ct c) (by rw [at10]; exact g1) (by rw [at10]; exact g2) ?_
    refine hgetK_last ?_
    refine needK_has rfl ?_
    refine eqK_has_eq (ct c) rfl ?_
    obtain ⟨q, hq⟩ : ∃ q, q = G.length := ⟨_, rfl⟩
    have k5 := hget_hset_same (H := G ++ [HObj.pcells ([PV.str ⟨#[]⟩, PV.int IntKind.i64 0, PV.int IntKind.i64 0, PV.int IntKind.i64 0, PV.int IntKind.i64 0, PV.int IntKind.i64 0, PV.int IntKind.i64 0, PV.bool false, PV.bool false, PV.bool false])]) (id := G.length) (.pcells (ct c)) (by simp)
    have k1 := keep2 (.pcells ([PV.str ⟨#[]⟩, PV.int IntKind.i64 0, PV.int IntKind.i64 0, PV.int IntKind.i64 0, PV.int IntKind.i64 0, PV.int IntKind.i64 0, PV.int IntKind.i64 0, PV.bool false, PV.bool false, PV.bool false])) (.pcells (ct c)) k1 ((by intro h; cases h))
    have hK := hK.trans (Kp.box G (.pcells ([PV.str ⟨#[]⟩, PV.int IntKind.i64 0, PV.int IntKind.i64 0, PV.int IntKind.i64 0, PV.int IntKind.i64 0, PV.int IntKind.i64 0, PV.int IntKind.i64 0, PV.bool false, PV.bool false, PV.bool false])) (.pcells (ct c)))
    generalize hset (G ++ [HObj.pcells ([PV.str ⟨#[]⟩, PV.int IntKind.i64 0, PV.int IntKind.i64 0, PV.int IntKind.i64 0, PV.int IntKind.i64 0, PV.int IntKind.i64 0, PV.int IntKind.i64 0, PV.bool false, PV.bool false, PV.bool false])]) G.length (.pcells (ct c)) = G at *
    rw [← hq] at k5 ⊢
    refine hgetK_has _ k5 ?_
    refine secK_has (v := ct c) rfl (of_decide_eq_true rfl) ?_
    refine callPK_dec (rctr_ok c (hs3 c hmem)) (fun h9 => ?_) (fun h9 => ?_)
    rotate_left
    · exact Has.intro (Has.intro (bad hK fun h => h9 (h.2.2.2.2.1 i c hcg).2))
    refine hgetK_has _ k1 ?_
    refine needK_has (by (first | rfl | (simp; done) | (simp; omega))) ?_
    refine needK_has (by first | rfl | simp) ?_
    refine loopK_has ?_
    refine iterE_loop (σ := Nat × Heap) (fun s => i - s.1) (fun s => [(1, .ptr H.length 0), (4, .ptr q 0), (47, .hs 10 id 0 p.l.length cap), (48, .pv (.int .i64 p.l.length)), (49, .pv (.int .i64 i)), (60, .hs 10 id 0 i cap), (61, .pv (.int .i64 i)), (62, .pv (.int .i64 s.1))]) (fun s => s.2)
      (fun s => s.1 ≤ i ∧ Kp H s.2 ∧ hget s.2 H.length = .cells (pdh p id cap) ∧ hget s.2 q = .pcells (ct c) ∧ ∀ (j : Nat) (d : Ct), j < s.1 → p.l[j]? = some d → d.name ≠ c.name) (fun ⟨m, G⟩ ⟨hm, hK, k1, k5, hB⟩ r => ?_) (0, _) ⟨Nat.zero_le _, hK, k1, k5, fun j d h => by omega⟩ ⟨rfl, rfl, rfl, rfl, rfl, rfl, rfl, rfl, trivial⟩ rfl
    dsimp only at hm hK k1 k5 hB ⊢
    refine boolK_dec (fun hc2 => ?_) (fun hc2 => ?_)
    · have hlt2 : m < i := by omega
      obtain ⟨d, hdg⟩ : ∃ d, p.l[m]? = some d := ⟨_, List.getElem?_eq_getElem (show m < p.l.length by omega)⟩
      have hdt : (p.l.take i)[m]? = some d := by rw [List.getElem?_take_of_lt hlt2]; exact hdg
      obtain ⟨f1, f2⟩ := flat_get ct_len hdg
      refine needK_has (by (first | rfl | (simp; done) | (simp; omega))) ?_
      refine hgetK_has _ (hK.2 _ _ hid ((by intro h; cases h)) ((fun _ _ h => by cases h))) ?_
      refine secK_has (v := ct d) (by rw [at10]; exact f1) (by rw [at10]; exact f2) ?_
      refine hgetK_last ?_
      refine needK_has rfl ?_
      refine eqK_has_eq (ct d) rfl ?_
      have k6 := hget_hset_same (H := G ++ [HObj.pcells ([PV.str ⟨#[]⟩, PV.int IntKind.i64 0, PV.int IntKind.i64 0, PV.int IntKind.i64 0, PV.int IntKind.i64 0, PV.int IntKind.i64 0, PV.int IntKind.i64 0, PV.bool false, PV.bool false, PV.bool false])]) (id := G.length) (.pcells (ct d)) (by simp)
      have k5 := keep2 (.pcells ([PV.str ⟨#[]⟩, PV.int IntKind.i64 0, PV.int IntKind.i64 0, PV.int IntKind.i64 0, PV.int IntKind.i64 0, PV.int IntKind.i64 0, PV.int IntKind.i64 0, PV.bool false, PV.bool false, PV.bool false])) (.pcells (ct d)) k5 ((by intro h; cases h))
      have k1 := keep2 (.pcells ([PV.str ⟨#[]⟩, PV.int IntKind.i64 0, PV.int IntKind.i64 0, PV.int IntKind.i64 0, PV.int IntKind.i64 0, PV.int IntKind.i64 0, PV.int IntKind.i64 0, PV.bool false, PV.bool false, PV.bool false])) (.pcells (ct d)) k1 ((by intro h; cases h))
      have hK := hK.trans (Kp.box G (.pcells ([PV.str ⟨#[]⟩, PV.int IntKind.i64 0, PV.int IntKind.i64 0, PV.int IntKind.i64 0, PV.int IntKind.i64 0, PV.int IntKind.i64 0, PV.int IntKind.i64 0, PV.bool false, PV.bool false, PV.bool false])) (.pcells (ct d)))
      generalize hset (G ++ [HObj.pcells ([PV.str ⟨#[]⟩, PV.int IntKind.i64 0, PV.int IntKind.i64 0, PV.int IntKind.i64 0, PV.int IntKind.i64 0, PV.int IntKind.i64 0, PV.int IntKind.i64 0, PV.bool false, PV.bool false, PV.bool false])]) G.length (.pcells (ct d)) = G at *
      refine hgetK_has _ k5 ?_
      refine getK_has rfl ?_
      refine hgetK_has _ k6 ?_
      refine getK_has rfl ?_
      refine boolK_has_eq (c := decide (c.name = d.name)) (str_beq _ _) ?_
      by_cases hn : c.name = d.name
      · rw [decide_eq_true hn]
        refine Has.intro (Has.intro (Has.intro (bad hK fun h => ?_)))
        have h1 := (h.2.2.2.2.1 i c hcg).1
        have h2 := findF_early p.l 0 m d hdg hn.symm
        have h3 : findI c.name p.l = findF c.name 0 p.l := rfl
        omega
      · rw [decide_eq_false hn]
        refine eqK_has_eq _ (i64_succ (by omega)) ?_
        refine Has.intro ⟨(m + 1, G), ⟨hlt2, hK, k1, k5, fun j e hj he => ?_⟩, (by dsimp only; omega), ⟨rfl, rfl, rfl, rfl, rfl, rfl, rfl, rfl, trivial⟩, rfl⟩
        dsimp only at hj
        by_cases ej : j = m
        · subst ej
          rw [hdg] at he; injection he with he; subst he
          exact fun e => hn e.symm
        · exact hB j e (by omega) he
    · refine Has.intro ?_
      refine eqK_has_eq _ (i64_succ (by omega)) ?_
      refine Has.intro ⟨(i + 1, G), ⟨hlt, hK, k1, fun j d hj hd => ?_⟩, (by dsimp only; omega), ⟨rfl, rfl, rfl, rfl, trivial⟩, rfl⟩
      dsimp only at hj
      by_cases e : j = i
      · subst e
        rw [hcg] at hd; injection hd with hd; subst hd
        refine ⟨?_, h9⟩
        have := findF_first p.l 0 j c hcg rfl (fun m d hm hd => hB m d (by omega) hd)
        rw [Nat.zero_add] at this
        exact this
      · exact hA j d (by omega) hd
  · have : i = p.l.length := by omega
    subst this
    refine Has.intro ?_
    refine hgetK_has _ k1 ?_
    refine callSK_has' ((rsums_ok _ p (by omega) G (.inr ⟨id, cap, rfl, hK.2 _ _ hid ((by intro h; cases h)) ((fun _ _ h => by cases h))⟩)).mono fun y hy => ?_)
    obtain ⟨v, H'⟩ := y
    obtain ⟨rfl, hK2⟩ := hy
    have hK := hK.trans hK2
    dsimp only at hK ⊢
    refine hgetK_has (.pcells ([PV.int IntKind.i64 0, PV.int IntKind.i64 0, PV.int IntKind.i64 0])) ((hget_app _ (by simp)).trans (hget_append_same H' _)) ?_
    refine needK_has rfl ?_
    refine eqK_has ?_
    refine hgetK_has (.pcells ([PV.int IntKind.i64 0, PV.int IntKind.i64 0, PV.int IntKind.i64 0])) ((hget_hset_ne _ _ (by simp)).trans (hget_append_same _ _)) ?_
    refine needK_has rfl ?_
    refine eqK_has ?_
    refine Has.intro ⟨?_, ((hK.trans ((Kp.app H' [HObj.pcells ([PV.int IntKind.i64 0, PV.int IntKind.i64 0, PV.int IntKind.i64 0])]).trans (Kp.app _ [HObj.pcells ([PV.int IntKind.i64 0, PV.int IntKind.i64 0, PV.int IntKind.i64 0])]))).set _ hK.1).set _ (by have := hK.1; simp; omega)⟩
    show AV.pv (PV.bool ((sumV (rqs p.l)).isSome && (sumV (lms p.l)).isSome)) = _
    congr 2
    rw [Bool.eq_iff_iff, Bool.and_eq_true, decide_eq_true_iff]
    exact ⟨fun h => ⟨h1, by omega, by omega, by omega, fun j c hj => hA j c (List.getElem?_eq_some_iff.1 hj).1 hj, h.1, h.2⟩, fun h => ⟨h.2.2.2.2.2.1, h.2.2.2.2.2.2⟩⟩
theorem rpod_ok (u : AV) (p : Pd) (hs : small p) (H : Heap) (hu : PA u H p) : Has (EE env (.fn 25) [u] H) (fun y => y.1 = .pv (.bool (decide (podP p))) ∧ Kp H y.2) := by
  rcases hu with ⟨x, rfl⟩ | ⟨id, cap, rfl, hid⟩
  · exact rpod_plain x p hs H
  · exact rpod_hs id cap p hs H hid
end Go.Proofs.YtmickbidffdklaaDoor

namespace Go.Proofs.YtmickbidffdklaaDoor
open Go Go.VM

noncomputable instance : DecidableEq Ct := fun a b => Classical.propDecidable (a = b)
theorem ct_eq (a b : Ct) : aggEq [.s, .i, .i, .i, .i, .i, .i, .b, .b, .b] (ct a) (ct b) = some (decide (a = b)) := by
  show some _ = some _
  congr 1
  rw [str_beq, Bool.eq_iff_iff, decide_eq_true_iff]
  obtain ⟨n, ⟨a1, a2, a3⟩, ⟨a4, a5, a6⟩, r0, r1, r2⟩ := a
  obtain ⟨m, ⟨b1, b2, b3⟩, ⟨b4, b5, b6⟩, s0, s1, s2⟩ := b
  simp only [Bool.and_eq_true, beq_iff_eq, decide_eq_true_iff, Ct.mk.injEq, Vc.mk.injEq]
  constructor
  · rintro ⟨h1, h2, h3, h4, h5, h6, h7, h8, h9, h10, _⟩
    exact ⟨h1, ⟨h2, h3, h4⟩, ⟨h5, h6, h7⟩, h8, h9, h10⟩
  · rintro ⟨h1, ⟨h2, h3, h4⟩, ⟨h5, h6, h7⟩, h8, h9, h10⟩
    exact ⟨h1, h2, h3, h4, h5, h6, h7, h8, h9, h10, trivial⟩
theorem lists_eq {a b : List Ct} (hl : a.length = b.length) (h : ∀ (j : Nat) (c d : Ct), a[j]? = some c → b[j]? = some d → c = d) : a = b := by
  refine List.ext_getElem? fun j => ?_
  cases ha : a[j]? with
  | none => rw [List.getElem?_eq_none_iff] at ha; symm; rw [List.getElem?_eq_none_iff]; omega
  | some c =>
    obtain ⟨hj, _⟩ := List.getElem?_eq_some_iff.1 ha
    have hb : b[j]? = some _ := List.getElem?_eq_getElem (show j < b.length by omega)
    rw [hb, h j c _ ha hb]
end Go.Proofs.YtmickbidffdklaaDoor

namespace Go.Proofs.YtmickbidffdklaaDoor
open Go Go.VM

def sameP (a b : Pd) : Prop := a.name = b.name ∧ a.prio = b.prio ∧ a.pol = b.pol ∧ a.l = b.l
noncomputable instance (a b : Pd) : Decidable (sameP a b) := Classical.propDecidable _
theorem str_bne (a b : List UInt8) : (!((⟨a.toArray⟩ : ByteArray).toList == (⟨b.toArray⟩ : ByteArray).toList)) = decide (a ≠ b) := by
  rw [str_beq]; by_cases h : a = b <;> simp [h]
end Go.Proofs.YtmickbidffdklaaDoor

namespace Go.Proofs.YtmickbidffdklaaDoor
open Go Go.VM

set_option maxHeartbeats 4000000 in
theorem req_ok (x : Ext) (p : Pd) (hl : p.l.length ≤ 1000) : EP (EE env) 32 [.agg (pdc p x)] = some (.agg (vc ((sumV (rqs p.l)).getD v0))) := by
  refine Has.eq (EP_has ?_)
  refine hgetK_has (.pcells (pdc p x)) rfl ?_
  refine getK_has rfl ?_
  refine loopK_has ?_
  refine iterE_loop (σ := Nat × AV × Heap) (fun s => p.l.length - s.1) (fun s => [(2, .ptr 1 0), (3, s.2.1), (9, .pv (.sl x p.l.length (flat ct p.l))), (10, .pv (.int .i64 p.l.length)), (11, .pv (.int .i64 s.1))]) (fun s => s.2.2)
    (fun s => s.1 ≤ p.l.length ∧ AppV s.2.2 s.2.1 .nil 3 s.1 (flat vc ((rqs p.l).take s.1)) ∧ hget s.2.2 1 = z3) (fun ⟨i, v, G⟩ ⟨hi, hT, k2⟩ r => ?_)
    (0, .pv (.sl .nil 0 []), _) ⟨Nat.zero_le _, AppV.new rfl, rfl⟩ ⟨rfl, rfl, rfl, rfl, rfl, trivial⟩ rfl
  dsimp only at hi hT k2 ⊢
  refine boolK_dec (fun hc => ?_) (fun hc => ?_)
  · have hlt : i < p.l.length := by omega
    obtain ⟨c, hcg⟩ : ∃ c, p.l[i]? = some c := ⟨_, List.getElem?_eq_getElem hlt⟩
    obtain ⟨g1, g2⟩ := flat_get ct_len hcg
    refine needK_has (by (first | rfl | (simp; done) | (simp; omega))) ?_
    refine secK_has g1 g2 ?_
    refine hgetK_last ?_
    refine needK_has rfl ?_
    refine eqK_has_eq (ct c) rfl ?_
    have hT := AppV_put (AppV_grow hT [.pcells ([PV.str ⟨#[]⟩, PV.int IntKind.i64 0, PV.int IntKind.i64 0, PV.int IntKind.i64 0, PV.int IntKind.i64 0, PV.int IntKind.i64 0, PV.int IntKind.i64 0, PV.bool false, PV.bool false, PV.bool false])]) (.pcells (ct c)) (hget_append_same G _) ((fun _ _ h => by cases h))
    have k2 := keep2 (.pcells ([PV.str ⟨#[]⟩, PV.int IntKind.i64 0, PV.int IntKind.i64 0, PV.int IntKind.i64 0, PV.int IntKind.i64 0, PV.int IntKind.i64 0, PV.int IntKind.i64 0, PV.bool false, PV.bool false, PV.bool false])) (.pcells (ct c)) k2 ((by intro h; cases h))
    have k8 := hget_hset_same (H := G ++ [HObj.pcells ([PV.str ⟨#[]⟩, PV.int IntKind.i64 0, PV.int IntKind.i64 0, PV.int IntKind.i64 0, PV.int IntKind.i64 0, PV.int IntKind.i64 0, PV.int IntKind.i64 0, PV.bool false, PV.bool false, PV.bool false])]) (id := G.length) (.pcells (ct c)) (by simp)
    generalize hset (G ++ [HObj.pcells ([PV.str ⟨#[]⟩, PV.int IntKind.i64 0, PV.int IntKind.i64 0, PV.int IntKind.i64 0, PV.int IntKind.i64 0, PV.int IntKind.i64 0, PV.int IntKind.i64 0, PV.bool false, PV.bool false, PV.bool false])]) G.length (.pcells (ct c)) = G at *
    rcases AppV.forms hT with ⟨hz, rfl⟩ | ⟨t, rfl⟩
    all_goals
      refine hgetK_has _ k8 ?_
      refine secK_has (v := vc c.rq) rfl (of_decide_eq_true rfl) ?_
      refine app_has (m := 1) (new := vc c.rq) hT rfl (by show (i + 1) * 24 ≤ 140737488355328; omega) (fun v' G1 hv' hf ht => ?_)
      obtain ⟨tv, rfl⟩ := AppV.form1 hv'
      refine eqK_has_eq _ (i64_succ (by omega)) ?_
      refine Has.intro ⟨(i + 1, _, G1), ⟨hlt, ?_, (Kp.fr hT hf).2 _ _ k2 ((by intro h; cases h)) ((fun _ _ h => by cases h))⟩, (by dsimp only; omega), ⟨rfl, rfl, rfl, rfl, rfl, trivial⟩, rfl⟩
      dsimp only
      unfold rqs at hv' ⊢
      rw [map_take hcg, ← flat_snoc]; exact hv'
  · have : i = p.l.length := by omega
    subst this
    refine Has.intro ?_
    have s1 : ∀ x', EP (EE env) 46 [.sl x' p.l.length (flat vc ((rqs p.l).take p.l.length))] = some (pairV (sumV (rqs p.l))) := fun x' => by
      have e : (rqs p.l).length = p.l.length := by simp [rqs]
      have := sum_ok x' (rqs p.l) (by rw [maxLen_eq]; omega)
      rw [← e, List.take_length]; exact this
    have s10 : p.l.length = 0 → EP (EE env) 46 [.sl .nil 0 []] = some (pairV (sumV (rqs p.l))) := fun h => by have := s1 .nil; rw [h] at this; exact this
    generalize sumV (rqs p.l) = o1 at *
    have hpa : ∀ o, pairV o = .tup [.agg (vc (o.getD v0)), .bool o.isSome] := fun o => by cases o <;> rfl
    rw [hpa] at s1 s10
    rcases AppV.forms hT with ⟨hz, rfl⟩ | ⟨t, rfl⟩
    all_goals
      first
        | refine callPK_has (s10 hz) ?_
        | refine callPK_has (s1 .nn) ?_
      refine hgetK_last ?_
      refine needK_has rfl ?_
      refine eqK_has_eq (vc (o1.getD v0)) rfl ?_
      have k6 := hget_hset_same (H := G ++ [HObj.pcells ([PV.int IntKind.i64 0, PV.int IntKind.i64 0, PV.int IntKind.i64 0])]) (id := G.length) (.pcells (vc (o1.getD v0))) (by simp)
      have k2 := keep2 (.pcells ([PV.int IntKind.i64 0, PV.int IntKind.i64 0, PV.int IntKind.i64 0])) (.pcells (vc (o1.getD v0))) k2 ((by intro h; cases h))
      refine hgetK_has _ k6 ?_
      refine secK_has (v := vc (o1.getD v0)) rfl (of_decide_eq_true rfl) ?_
      refine hgetK_has _ k2 ?_
      refine needK_has rfl ?_
      refine eqK_has_eq (vc (o1.getD v0)) rfl ?_
      refine hgetK_has _ (hget_hset_same _ (hget_lt k2 ((by intro h; cases h)))) ?_
      refine secK_has (v := vc (o1.getD v0)) rfl (of_decide_eq_true rfl) ?_
      exact Has.intro (Has.intro rfl)
end Go.Proofs.YtmickbidffdklaaDoor

namespace Go.Proofs.YtmickbidffdklaaDoor
open Go Go.VM

set_option maxHeartbeats 4000000 in
theorem great_ok (x : Ext) (p : Pd) (hs : small p) : ∃ n : Int, EP (EE env) 9 [.agg (pdc p x)] = some (.int .i64 n) ∧ (n ≤ 2000 → p.l.length ≤ 51) := by
  obtain ⟨hs1, hs2, hs3⟩ := hs
  have hl := hs2
  rw [maxLen_eq] at hl hs1
  have main : Has (EP (EE env) 9 [.agg (pdc p x)]) (fun v => ∃ n : Int, v = .int .i64 n ∧ (n ≤ 2000 → p.l.length ≤ 51)) := by
    refine EP_has ?_
    refine hgetK_has (.pcells (pdc p x)) rfl ?_
    refine getK_has rfl ?_
    refine hgetK_has (.pcells (pdc p x)) rfl ?_
    refine getK_has rfl ?_
    refine loopK_has ?_
    refine iterE_loop (σ := Nat × Int × Heap) (fun s => p.l.length - s.1) (fun s => [(3, .pv (.int .i64 s.2.1)), (10, .pv (.sl x p.l.length (flat ct p.l))), (11, .pv (.int .i64 p.l.length)), (12, .pv (.int .i64 s.1))]) (fun s => s.2.2)
      (fun s => s.1 ≤ p.l.length ∧ s.1 ≤ 51) (fun ⟨i, n, G⟩ ⟨hi, h51⟩ r => ?_) (0, _, _) ⟨Nat.zero_le _, Nat.zero_le _⟩ ⟨rfl, rfl, rfl, rfl, trivial⟩ rfl
    dsimp only at hi h51 ⊢
    refine boolK_dec (fun hc => ?_) (fun hc => ?_)
    · have hlt : i < p.l.length := by omega
      obtain ⟨c, hcg⟩ : ∃ c, p.l[i]? = some c := ⟨_, List.getElem?_eq_getElem hlt⟩
      obtain ⟨g1, g2⟩ := flat_get ct_len hcg
      refine needK_has (by (first | rfl | (simp; done) | (simp; omega))) ?_
      refine secK_has g1 g2 ?_
      refine hgetK_last ?_
      refine needK_has rfl ?_
      refine eqK_has_eq (ct c) rfl ?_
      have k5 := hget_hset_same (H := G ++ [HObj.pcells ([PV.str ⟨#[]⟩, PV.int IntKind.i64 0, PV.int IntKind.i64 0, PV.int IntKind.i64 0, PV.int IntKind.i64 0, PV.int IntKind.i64 0, PV.int IntKind.i64 0, PV.bool false, PV.bool false, PV.bool false])]) (id := G.length) (.pcells (ct c)) (by simp)
      generalize hset (G ++ [HObj.pcells ([PV.str ⟨#[]⟩, PV.int IntKind.i64 0, PV.int IntKind.i64 0, PV.int IntKind.i64 0, PV.int IntKind.i64 0, PV.int IntKind.i64 0, PV.int IntKind.i64 0, PV.bool false, PV.bool false, PV.bool false])]) G.length (.pcells (ct c)) = G at *
      refine boolK_dec (fun h => ?_) (fun h => ?_)
      · exact Has.intro (Has.intro (Has.intro ⟨5000, rfl, fun h => by omega⟩))
      · refine hgetK_has _ k5 ?_
        refine getK_has rfl ?_
        refine eqK_has ?_
        refine eqK_has ?_
        refine eqK_has ?_
        refine eqK_has_eq _ (i64_succ (by omega)) ?_
        exact Has.intro ⟨(i + 1, _, G), ⟨hlt, by dsimp only; omega⟩, (by dsimp only; omega), ⟨rfl, rfl, rfl, rfl, trivial⟩, rfl⟩
    · exact Has.intro (Has.intro (Has.intro ⟨_, rfl, fun _ => by omega⟩))
  obtain ⟨v, h1, n, h2, h3⟩ := main
  exact ⟨n, by rw [h1, h2], h3⟩
end Go.Proofs.YtmickbidffdklaaDoor
