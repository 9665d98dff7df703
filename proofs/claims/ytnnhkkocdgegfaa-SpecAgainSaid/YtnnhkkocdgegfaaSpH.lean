/-
  Sums of pods: the program's.
-/
import Derived.Test.YtnnhkkocdgegfaaSpG
set_option linter.all false
set_option linter.unusedVariables false
set_option linter.unusedSimpArgs false
set_option linter.unusedSectionVars false
namespace Go.Proofs.Ytnnhkkocdgegfaa
open Go Go.VM

/-- All that is no token stays. -/
def Kp (H H' : Heap) : Prop := H.length ≤ H'.length ∧ ∀ i o, hget H i = o → o ≠ .dead → (∀ n es, o ≠ .tok n es) → hget H' i = o
theorem Kp.refl (H : Heap) : Kp H H := ⟨Nat.le_refl _, fun _ _ h _ _ => h⟩
theorem Kp.trans {A B C : Heap} (h1 : Kp A B) (h2 : Kp B C) : Kp A C := ⟨Nat.le_trans h1.1 h2.1, fun i o h hd ht => h2.2 i o (h1.2 i o h hd ht) hd ht⟩
theorem Kp.app (H J : Heap) : Kp H (H ++ J) := ⟨by simp, fun i o h hd _ => (hget_app J (hget_lt h hd)).trans h⟩
theorem Kp.box (H : Heap) (z o' : HObj) : Kp H (hset (H ++ [z]) H.length o') := ⟨by rw [hset_len]; simp, fun i o h hd _ => keep2 z o' h hd⟩
theorem Kp.set {A B : Heap} (h : Kp A B) {i : Nat} (o' : HObj) (hi : A.length ≤ i) : Kp A (hset B i o') :=
  ⟨by rw [hset_len]; exact h.1, fun j o hj hd ht => (hget_hset_ne _ _ (by have := hget_lt hj hd; omega)).trans (h.2 j o hj hd ht)⟩
theorem Kp.fr {H H' : Heap} {v : AV} {e : Ext} {es n : Nat} {cs : List PV} (hv : AppV H v e es n cs) (hf : Fr v H H') : Kp H H' := ⟨hf.1, fun _ _ h hd ht => Fr.obj hv hf h hd ht⟩
theorem Kp.pa {H H' : Heap} (h : Kp H H') {u : AV} {p : Pd} (hu : PA u H p) : PA u H' p := by
  rcases hu with h1 | ⟨id, cap, h1, h2⟩
  · exact .inl h1
  · exact .inr ⟨id, cap, h1, h.2 _ _ h2 ((by intro h; cases h)) ((fun _ _ h => by cases h))⟩
theorem forceK_has {R : Type} {Q : R → Prop} {v : AV} {F : AV → Option R} (h : Has (F v) Q) : Has (forceK v F) Q := by rw [forceK_def]; exact h
theorem AppV.form1 {G : Heap} {v : AV} {n : Nat} {cs : List PV} (h : AppV G v .nil 3 (n + 1) cs) : ∃ t, v = .tsl t (n + 1) cs := by
  rcases AppV.forms h with ⟨h, _⟩ | h
  · exact absurd h (Nat.succ_ne_zero n)
  · exact h
set_option maxHeartbeats 4000000 in
theorem sums_plain (x : Ext) (p : Pd) (hl : p.l.length ≤ 1000) (H : Heap) :
    Has (EE env (.fn 37) [.pv (.agg (pdc p x))] H) (fun y => y.1 = .pv (sum3 p.l) ∧ Kp H y.2) := by
  refine EE_has ?_
  refine hgetK_has (.pcells (pdc p x)) ((hget_app _ (by simp)).trans ((hget_app _ (by simp)).trans (hget_append_same H _))) ?_
  refine getK_has rfl ?_
  refine loopK_has ?_
  refine iterE_loop (σ := Nat × AV × AV × Heap) (fun s => p.l.length - s.1) (fun s => [(2, .ptr (H.length + 1) 0), (3, .ptr (H.length + 2) 0), (5, s.2.1), (6, s.2.2.1), (14, .pv (.sl x p.l.length (flat ct p.l))), (15, .pv (.int .i64 p.l.length)), (16, .pv (.int .i64 s.1))]) (fun s => s.2.2.2)
    (fun s => s.1 ≤ p.l.length ∧ Two s.2.2.2 p.l s.1 s.2.1 s.2.2.1 ∧ hget s.2.2.2 (H.length + 1) = z3 ∧ hget s.2.2.2 (H.length + 2) = z3 ∧ Kp H s.2.2.2) (fun ⟨i, v, w, G⟩ ⟨hi, hT, k2, k3, hK⟩ r => ?_)
    (0, .pv (.sl .nil 0 []), .pv (.sl .nil 0 []), _) ⟨Nat.zero_le _, Two.zero _ _, ?_, ?_, ?_⟩ ⟨?_, ?_, rfl, rfl, rfl, rfl, rfl, trivial⟩ rfl
  · dsimp only at hi hT k2 k3 hK ⊢
    refine boolK_dec (fun hc => ?_) (fun hc => ?_)
    · have hlt : i < p.l.length := by omega
      obtain ⟨c, hcg⟩ : ∃ c, p.l[i]? = some c := ⟨_, List.getElem?_eq_getElem hlt⟩
      obtain ⟨g1, g2⟩ := flat_get ct_len hcg
      refine needK_has (by (first | rfl | (simp; done) | (simp; omega))) ?_
      refine secK_has g1 g2 ?_
      refine hgetK_last ?_
      refine needK_has rfl ?_
      refine eqK_has_eq (ct c) rfl ?_
      have hT := Two.box hT (.pcells ([PV.str ⟨#[]⟩, PV.int IntKind.i64 0, PV.int IntKind.i64 0, PV.int IntKind.i64 0, PV.int IntKind.i64 0, PV.int IntKind.i64 0, PV.int IntKind.i64 0, PV.bool false, PV.bool false, PV.bool false])) (.pcells (ct c)) ((fun _ _ h => by cases h))
      have k8 := hget_hset_same (H := G ++ [HObj.pcells ([PV.str ⟨#[]⟩, PV.int IntKind.i64 0, PV.int IntKind.i64 0, PV.int IntKind.i64 0, PV.int IntKind.i64 0, PV.int IntKind.i64 0, PV.int IntKind.i64 0, PV.bool false, PV.bool false, PV.bool false])]) (id := G.length) (.pcells (ct c)) (by simp)
      have k2 := keep2 (.pcells ([PV.str ⟨#[]⟩, PV.int IntKind.i64 0, PV.int IntKind.i64 0, PV.int IntKind.i64 0, PV.int IntKind.i64 0, PV.int IntKind.i64 0, PV.int IntKind.i64 0, PV.bool false, PV.bool false, PV.bool false])) (.pcells (ct c)) k2 ((by intro h; cases h))
      have k3 := keep2 (.pcells ([PV.str ⟨#[]⟩, PV.int IntKind.i64 0, PV.int IntKind.i64 0, PV.int IntKind.i64 0, PV.int IntKind.i64 0, PV.int IntKind.i64 0, PV.int IntKind.i64 0, PV.bool false, PV.bool false, PV.bool false])) (.pcells (ct c)) k3 ((by intro h; cases h))
      have hK := hK.trans (Kp.box G (.pcells ([PV.str ⟨#[]⟩, PV.int IntKind.i64 0, PV.int IntKind.i64 0, PV.int IntKind.i64 0, PV.int IntKind.i64 0, PV.int IntKind.i64 0, PV.int IntKind.i64 0, PV.bool false, PV.bool false, PV.bool false])) (.pcells (ct c)))
      generalize hset (G ++ [HObj.pcells ([PV.str ⟨#[]⟩, PV.int IntKind.i64 0, PV.int IntKind.i64 0, PV.int IntKind.i64 0, PV.int IntKind.i64 0, PV.int IntKind.i64 0, PV.int IntKind.i64 0, PV.bool false, PV.bool false, PV.bool false])]) G.length (.pcells (ct c)) = G at *
      rcases AppV.forms hT.1 with ⟨hz, rfl⟩ | ⟨t, rfl⟩
      all_goals
       rcases AppV.forms hT.2.1 with ⟨hz2, rfl⟩ | ⟨t2, rfl⟩
      all_goals
       refine hgetK_has _ k8 ?_
       refine secK_has (v := vc c.rq) rfl (of_decide_eq_true rfl) ?_
       refine app_has (m := 1) (new := vc c.rq) hT.1 rfl (by show (i + 1) * 24 ≤ 140737488355328; omega) (fun v' G1 hv' hf ht => ?_)
       obtain ⟨a1, a2, a3⟩ := two_first hT hcg hv' hf ht
       have kf := Kp.fr hT.1 hf
       have k8a := kf.2 _ _ k8 ((by intro h; cases h)) ((fun _ _ h => by cases h))
       obtain ⟨tv, rfl⟩ := AppV.form1 hv'
       refine hgetK_has _ k8a ?_
       refine secK_has (v := vc c.lm) rfl (of_decide_eq_true rfl) ?_
       refine app_has (m := 1) (new := vc c.lm) a2 rfl (by show (i + 1) * 24 ≤ 140737488355328; omega) (fun w' G2 hw' hf2 ht2 => ?_)
       have hT2 := two_second a1 a2 a3 hcg hw' hf2 ht2
       have kf2 := Kp.fr a2 hf2
       obtain ⟨tw, rfl⟩ := AppV.form1 hw'
       refine sameK_has ?_ ?_ ?_
       · rw [k8, k8a]
       · first | (rw [k8]; rfl) | (rw [k8a]; rfl)
       refine eqK_has_eq _ (i64_succ (by omega)) ?_
       exact Has.intro ⟨(i + 1, _, _, G2), ⟨hlt, hT2, kf2.2 _ _ (kf.2 _ _ k2 ((by intro h; cases h)) ((fun _ _ h => by cases h))) ((by intro h; cases h)) ((fun _ _ h => by cases h)), kf2.2 _ _ (kf.2 _ _ k3 ((by intro h; cases h)) ((fun _ _ h => by cases h))) ((by intro h; cases h)) ((fun _ _ h => by cases h)), (hK.trans kf).trans kf2⟩, (by dsimp only; omega), ⟨rfl, rfl, rfl, rfl, rfl, rfl, rfl, trivial⟩, rfl⟩
    · have : i = p.l.length := by omega
      subst this
      refine Has.intro ?_
      have s1 : ∀ x', EP (EE env) 38 [.sl x' p.l.length (flat vc ((rqs p.l).take p.l.length))] = some (pairV (sumV (rqs p.l))) := fun x' => by
        have e : (rqs p.l).length = p.l.length := by simp [rqs]
        have := sum_ok x' (rqs p.l) (by rw [maxLen_eq]; omega)
        rw [← e, List.take_length]; exact this
      have s2 : ∀ x', EP (EE env) 38 [.sl x' p.l.length (flat vc ((lms p.l).take p.l.length))] = some (pairV (sumV (lms p.l))) := fun x' => by
        have e : (lms p.l).length = p.l.length := by simp [lms]
        have := sum_ok x' (lms p.l) (by rw [maxLen_eq]; omega)
        rw [← e, List.take_length]; exact this
      have s10 : p.l.length = 0 → EP (EE env) 38 [.sl .nil 0 []] = some (pairV (sumV (rqs p.l))) := fun h => by have := s1 .nil; rw [h] at this; exact this
      have s20 : p.l.length = 0 → EP (EE env) 38 [.sl .nil 0 []] = some (pairV (sumV (lms p.l))) := fun h => by have := s2 .nil; rw [h] at this; exact this
      have hsum : sum3 p.l = .tup [.agg (vc ((sumV (rqs p.l)).getD v0)), .agg (vc ((sumV (lms p.l)).getD v0)), .bool ((sumV (rqs p.l)).isSome && (sumV (lms p.l)).isSome)] := rfl
      rw [hsum]
      generalize sumV (rqs p.l) = o1 at *
      generalize sumV (lms p.l) = o2 at *
      have hpa : ∀ o, pairV o = .tup [.agg (vc (o.getD v0)), .bool o.isSome] := fun o => by cases o <;> rfl
      rw [hpa] at s1 s2 s10 s20
      rcases AppV.forms hT.1 with ⟨hz, rfl⟩ | ⟨t, rfl⟩
      all_goals
       rcases AppV.forms hT.2.1 with ⟨hz2, rfl⟩ | ⟨t2, rfl⟩
      all_goals
       first
         | refine callPK_has (s10 hz) ?_
         | refine callPK_has (s1 .nn) ?_
       refine hgetK_last ?_
       refine needK_has rfl ?_
       refine eqK_has_eq (vc (o1.getD v0)) rfl ?_
       have k9 := hget_hset_same (H := G ++ [HObj.pcells ([PV.int IntKind.i64 0, PV.int IntKind.i64 0, PV.int IntKind.i64 0])]) (id := G.length) (.pcells (vc (o1.getD v0))) (by simp)
       have k2 := keep2 (.pcells ([PV.int IntKind.i64 0, PV.int IntKind.i64 0, PV.int IntKind.i64 0])) (.pcells (vc (o1.getD v0))) k2 ((by intro h; cases h))
       have k3 := keep2 (.pcells ([PV.int IntKind.i64 0, PV.int IntKind.i64 0, PV.int IntKind.i64 0])) (.pcells (vc (o1.getD v0))) k3 ((by intro h; cases h))
       have hK := hK.trans (Kp.box G (.pcells ([PV.int IntKind.i64 0, PV.int IntKind.i64 0, PV.int IntKind.i64 0])) (.pcells (vc (o1.getD v0))))
       generalize hset (G ++ [HObj.pcells ([PV.int IntKind.i64 0, PV.int IntKind.i64 0, PV.int IntKind.i64 0])]) G.length (.pcells (vc (o1.getD v0))) = G at *
       first
         | refine callPK_has (s20 hz2) ?_
         | refine callPK_has (s2 .nn) ?_
       refine hgetK_last ?_
       refine needK_has rfl ?_
       refine eqK_has_eq (vc (o2.getD v0)) rfl ?_
       have hn11 : H.length + 2 < G.length := hget_lt k3 ((by intro h; cases h))
       have k11 := hget_hset_same (H := G ++ [HObj.pcells ([PV.int IntKind.i64 0, PV.int IntKind.i64 0, PV.int IntKind.i64 0])]) (id := G.length) (.pcells (vc (o2.getD v0))) (by simp)
       have k9 := keep2 (.pcells ([PV.int IntKind.i64 0, PV.int IntKind.i64 0, PV.int IntKind.i64 0])) (.pcells (vc (o2.getD v0))) k9 ((by intro h; cases h))
       have k2 := keep2 (.pcells ([PV.int IntKind.i64 0, PV.int IntKind.i64 0, PV.int IntKind.i64 0])) (.pcells (vc (o2.getD v0))) k2 ((by intro h; cases h))
       have k3 := keep2 (.pcells ([PV.int IntKind.i64 0, PV.int IntKind.i64 0, PV.int IntKind.i64 0])) (.pcells (vc (o2.getD v0))) k3 ((by intro h; cases h))
       have hK := hK.trans (Kp.box G (.pcells ([PV.int IntKind.i64 0, PV.int IntKind.i64 0, PV.int IntKind.i64 0])) (.pcells (vc (o2.getD v0))))
       generalize hset (G ++ [HObj.pcells ([PV.int IntKind.i64 0, PV.int IntKind.i64 0, PV.int IntKind.i64 0])]) G.length (.pcells (vc (o2.getD v0))) = G at *
       refine hgetK_has _ k9 ?_
       refine secK_has (v := vc (o1.getD v0)) rfl (of_decide_eq_true rfl) ?_
       refine hgetK_has _ k11 ?_
       refine secK_has (v := vc (o2.getD v0)) rfl (of_decide_eq_true rfl) ?_
       have l2 : H.length + 1 < G.length := hget_lt k2 ((by intro h; cases h))
       have l11 := hget_lt k11 ((by intro h; cases h))
       cases o1
       all_goals
        cases o2
       all_goals
        refine hgetK_has _ k2 ?_
        refine needK_has rfl ?_
        refine eqK_has ?_
        refine hgetK_has _ ((hget_hset_ne _ _ (by omega)).trans k3) ?_
        refine needK_has rfl ?_
        refine eqK_has ?_
        refine sameK_has ?_ ?_ ?_
        · first
            | (rw [k11, hget_hset_ne _ _ (by omega), k11])
            | (rw [hget_hset_ne _ _ (by omega), k11])
        · first | (rw [k11]; rfl) | (rw [hget_hset_ne _ _ (by omega), k11]; rfl)
        refine hgetK_has _ ((hget_hset_ne _ _ (by omega)).trans (hget_hset_same _ l2)) ?_
        refine secK_has rfl (of_decide_eq_true rfl) ?_
        refine hgetK_has _ (hget_hset_same _ (by rw [hset_len]; omega)) ?_
        refine secK_has rfl (of_decide_eq_true rfl) ?_
        exact Has.intro ⟨rfl, (hK.set _ (by omega)).set _ (by omega)⟩
  · exact (hget_app _ (by simp)).trans (by
      have := hget_append_same (H ++ [HObj.pcells (pdc p x)]) (.pcells ([PV.int IntKind.i64 0, PV.int IntKind.i64 0, PV.int IntKind.i64 0]))
      show hget _ _ = HObj.pcells ([PV.int IntKind.i64 0, PV.int IntKind.i64 0, PV.int IntKind.i64 0])
      simpa using this)
  · have := hget_append_same (H ++ [HObj.pcells (pdc p x)] ++ [HObj.pcells ([PV.int IntKind.i64 0, PV.int IntKind.i64 0, PV.int IntKind.i64 0])]) (.pcells ([PV.int IntKind.i64 0, PV.int IntKind.i64 0, PV.int IntKind.i64 0]))
    show hget _ _ = HObj.pcells ([PV.int IntKind.i64 0, PV.int IntKind.i64 0, PV.int IntKind.i64 0])
    simpa using this
  · rw [List.append_assoc, List.append_assoc]; exact Kp.app _ _
  · show AV.ptr (H ++ [HObj.pcells (pdc p x)]).length 0 = _
    rw [List.length_append]; rfl
  · show AV.ptr (H ++ [HObj.pcells (pdc p x)] ++ [HObj.pcells ([PV.int IntKind.i64 0, PV.int IntKind.i64 0, PV.int IntKind.i64 0])]).length 0 = _
    rw [List.length_append, List.length_append]; rfl
set_option maxHeartbeats 4000000 in
theorem sums_hs (id cap : Nat) (p : Pd) (hl : p.l.length ≤ 1000) (H : Heap) (hid : hget H id = .pcells (flat ct p.l)) :
    Has (EE env (.fn 37) [.agg (pdh p id cap)] H) (fun y => y.1 = .pv (sum3 p.l) ∧ Kp H y.2) := by
  refine EE_has ?_
  refine hgetK_has (.cells (pdh p id cap)) ((hget_app _ (by simp)).trans ((hget_app _ (by simp)).trans (hget_append_same H _))) ?_
  refine loopK_has ?_
  refine iterE_loop (σ := Nat × AV × AV × Heap) (fun s => p.l.length - s.1) (fun s => [(2, .ptr (H.length + 1) 0), (3, .ptr (H.length + 2) 0), (5, s.2.1), (6, s.2.2.1), (14, .hs 10 id 0 p.l.length cap), (15, .pv (.int .i64 p.l.length)), (16, .pv (.int .i64 s.1))]) (fun s => s.2.2.2)
    (fun s => s.1 ≤ p.l.length ∧ Two s.2.2.2 p.l s.1 s.2.1 s.2.2.1 ∧ hget s.2.2.2 (H.length + 1) = z3 ∧ hget s.2.2.2 (H.length + 2) = z3 ∧ Kp H s.2.2.2) (fun ⟨i, v, w, G⟩ ⟨hi, hT, k2, k3, hK⟩ r => ?_)
    (0, .pv (.sl .nil 0 []), .pv (.sl .nil 0 []), _) ⟨Nat.zero_le _, Two.zero _ _, ?_, ?_, ?_⟩ ⟨?_, ?_, rfl, rfl, rfl, rfl, rfl, trivial⟩ rfl
  · dsimp only at hi hT k2 k3 hK ⊢
    refine boolK_dec (fun hc => ?_) (fun hc => ?_)
    · have hlt : i < p.l.length := by omega
      obtain ⟨c, hcg⟩ : ∃ c, p.l[i]? = some c := ⟨_, List.getElem?_eq_getElem hlt⟩
      obtain ⟨g1, g2⟩ := flat_get ct_len hcg
      refine needK_has (by (first | rfl | (simp; done) | (simp; omega))) ?_
      refine hgetK_has _ (hK.2 _ _ hid ((by intro h; cases h)) ((fun _ _ h => by cases h))) ?_
      refine secK_has (v := ct c) (by rw [at10]; exact g1) (by rw [at10]; exact g2) ?_
      refine hgetK_last ?_
      refine needK_has rfl ?_
      refine eqK_has_eq (ct c) rfl ?_
      have hT := Two.box hT (.pcells ([PV.str ⟨#[]⟩, PV.int IntKind.i64 0, PV.int IntKind.i64 0, PV.int IntKind.i64 0, PV.int IntKind.i64 0, PV.int IntKind.i64 0, PV.int IntKind.i64 0, PV.bool false, PV.bool false, PV.bool false])) (.pcells (ct c)) ((fun _ _ h => by cases h))
      have k8 := hget_hset_same (H := G ++ [HObj.pcells ([PV.str ⟨#[]⟩, PV.int IntKind.i64 0, PV.int IntKind.i64 0, PV.int IntKind.i64 0, PV.int IntKind.i64 0, PV.int IntKind.i64 0, PV.int IntKind.i64 0, PV.bool false, PV.bool false, PV.bool false])]) (id := G.length) (.pcells (ct c)) (by simp)
      have k2 := keep2 (.pcells ([PV.str ⟨#[]⟩, PV.int IntKind.i64 0, PV.int IntKind.i64 0, PV.int IntKind.i64 0, PV.int IntKind.i64 0, PV.int IntKind.i64 0, PV.int IntKind.i64 0, PV.bool false, PV.bool false, PV.bool false])) (.pcells (ct c)) k2 ((by intro h; cases h))
      have k3 := keep2 (.pcells ([PV.str ⟨#[]⟩, PV.int IntKind.i64 0, PV.int IntKind.i64 0, PV.int IntKind.i64 0, PV.int IntKind.i64 0, PV.int IntKind.i64 0, PV.int IntKind.i64 0, PV.bool false, PV.bool false, PV.bool false])) (.pcells (ct c)) k3 ((by intro h; cases h))
      have hK := hK.trans (Kp.box G (.pcells ([PV.str ⟨#[]⟩, PV.int IntKind.i64 0, PV.int IntKind.i64 0, PV.int IntKind.i64 0, PV.int IntKind.i64 0, PV.int IntKind.i64 0, PV.int IntKind.i64 0, PV.bool false, PV.bool false, PV.bool false])) (.pcells (ct c)))
      generalize hset (G ++ [HObj.pcells ([PV.str ⟨#[]⟩, PV.int IntKind.i64 0, PV.int IntKind.i64 0, PV.int IntKind.i64 0, PV.int IntKind.i64 0, PV.int IntKind.i64 0, PV.int IntKind.i64 0, PV.bool false, PV.bool false, PV.bool false])]) G.length (.pcells (ct c)) = G at *
      rcases AppV.forms hT.1 with ⟨hz, rfl⟩ | ⟨t, rfl⟩
      all_goals
       rcases AppV.forms hT.2.1 with ⟨hz2, rfl⟩ | ⟨t2, rfl⟩
      all_goals
       refine hgetK_has _ k8 ?_
       refine secK_has (v := vc c.rq) rfl (of_decide_eq_true rfl) ?_
       refine app_has (m := 1) (new := vc c.rq) hT.1 rfl (by show (i + 1) * 24 ≤ 140737488355328; omega) (fun v' G1 hv' hf ht => ?_)
       obtain ⟨a1, a2, a3⟩ := two_first hT hcg hv' hf ht
       have kf := Kp.fr hT.1 hf
       have k8a := kf.2 _ _ k8 ((by intro h; cases h)) ((fun _ _ h => by cases h))
       obtain ⟨tv, rfl⟩ := AppV.form1 hv'
       refine hgetK_has _ k8a ?_
       refine secK_has (v := vc c.lm) rfl (of_decide_eq_true rfl) ?_
       refine app_has (m := 1) (new := vc c.lm) a2 rfl (by show (i + 1) * 24 ≤ 140737488355328; omega) (fun w' G2 hw' hf2 ht2 => ?_)
       have hT2 := two_second a1 a2 a3 hcg hw' hf2 ht2
       have kf2 := Kp.fr a2 hf2
       obtain ⟨tw, rfl⟩ := AppV.form1 hw'
       refine sameK_has ?_ ?_ ?_
       · rw [k8, k8a]
       · first | (rw [k8]; rfl) | (rw [k8a]; rfl)
       refine eqK_has_eq _ (i64_succ (by omega)) ?_
       exact Has.intro ⟨(i + 1, _, _, G2), ⟨hlt, hT2, kf2.2 _ _ (kf.2 _ _ k2 ((by intro h; cases h)) ((fun _ _ h => by cases h))) ((by intro h; cases h)) ((fun _ _ h => by cases h)), kf2.2 _ _ (kf.2 _ _ k3 ((by intro h; cases h)) ((fun _ _ h => by cases h))) ((by intro h; cases h)) ((fun _ _ h => by cases h)), (hK.trans kf).trans kf2⟩, (by dsimp only; omega), ⟨rfl, rfl, rfl, rfl, rfl, rfl, rfl, trivial⟩, rfl⟩
    · have : i = p.l.length := by omega
      subst this
      refine Has.intro ?_
      have s1 : ∀ x', EP (EE env) 38 [.sl x' p.l.length (flat vc ((rqs p.l).take p.l.length))] = some (pairV (sumV (rqs p.l))) := fun x' => by
        have e : (rqs p.l).length = p.l.length := by simp [rqs]
        have := sum_ok x' (rqs p.l) (by rw [maxLen_eq]; omega)
        rw [← e, List.take_length]; exact this
      have s2 : ∀ x', EP (EE env) 38 [.sl x' p.l.length (flat vc ((lms p.l).take p.l.length))] = some (pairV (sumV (lms p.l))) := fun x' => by
        have e : (lms p.l).length = p.l.length := by simp [lms]
        have := sum_ok x' (lms p.l) (by rw [maxLen_eq]; omega)
        rw [← e, List.take_length]; exact this
      have s10 : p.l.length = 0 → EP (EE env) 38 [.sl .nil 0 []] = some (pairV (sumV (rqs p.l))) := fun h => by have := s1 .nil; rw [h] at this; exact this
      have s20 : p.l.length = 0 → EP (EE env) 38 [.sl .nil 0 []] = some (pairV (sumV (lms p.l))) := fun h => by have := s2 .nil; rw [h] at this; exact this
      have hsum : sum3 p.l = .tup [.agg (vc ((sumV (rqs p.l)).getD v0)), .agg (vc ((sumV (lms p.l)).getD v0)), .bool ((sumV (rqs p.l)).isSome && (sumV (lms p.l)).isSome)] := rfl
      rw [hsum]
      generalize sumV (rqs p.l) = o1 at *
      generalize sumV (lms p.l) = o2 at *
      have hpa : ∀ o, pairV o = .tup [.agg (vc (o.getD v0)), .bool o.isSome] := fun o => by cases o <;> rfl
      rw [hpa] at s1 s2 s10 s20
      rcases AppV.forms hT.1 with ⟨hz, rfl⟩ | ⟨t, rfl⟩
      all_goals
       rcases AppV.forms hT.2.1 with ⟨hz2, rfl⟩ | ⟨t2, rfl⟩
      all_goals
       first
         | refine callPK_has (s10 hz) ?_
         | refine callPK_has (s1 .nn) ?_
       refine hgetK_last ?_
       refine needK_has rfl ?_
       refine eqK_has_eq (vc (o1.getD v0)) rfl ?_
       have k9 := hget_hset_same (H := G ++ [HObj.pcells ([PV.int IntKind.i64 0, PV.int IntKind.i64 0, PV.int IntKind.i64 0])]) (id := G.length) (.pcells (vc (o1.getD v0))) (by simp)
       have k2 := keep2 (.pcells ([PV.int IntKind.i64 0, PV.int IntKind.i64 0, PV.int IntKind.i64 0])) (.pcells (vc (o1.getD v0))) k2 ((by intro h; cases h))
       have k3 := keep2 (.pcells ([PV.int IntKind.i64 0, PV.int IntKind.i64 0, PV.int IntKind.i64 0])) (.pcells (vc (o1.getD v0))) k3 ((by intro h; cases h))
       have hK := hK.trans (Kp.box G (.pcells ([PV.int IntKind.i64 0, PV.int IntKind.i64 0, PV.int IntKind.i64 0])) (.pcells (vc (o1.getD v0))))
       generalize hset (G ++ [HObj.pcells ([PV.int IntKind.i64 0, PV.int IntKind.i64 0, PV.int IntKind.i64 0])]) G.length (.pcells (vc (o1.getD v0))) = G at *
       first
         | refine callPK_has (s20 hz2) ?_
         | refine callPK_has (s2 .nn) ?_
       refine hgetK_last ?_
       refine needK_has rfl ?_
       refine eqK_has_eq (vc (o2.getD v0)) rfl ?_
       have hn11 : H.length + 2 < G.length := hget_lt k3 ((by intro h; cases h))
       have k11 := hget_hset_same (H := G ++ [HObj.pcells ([PV.int IntKind.i64 0, PV.int IntKind.i64 0, PV.int IntKind.i64 0])]) (id := G.length) (.pcells (vc (o2.getD v0))) (by simp)
       have k9 := keep2 (.pcells ([PV.int IntKind.i64 0, PV.int IntKind.i64 0, PV.int IntKind.i64 0])) (.pcells (vc (o2.getD v0))) k9 ((by intro h; cases h))
       have k2 := keep2 (.pcells ([PV.int IntKind.i64 0, PV.int IntKind.i64 0, PV.int IntKind.i64 0])) (.pcells (vc (o2.getD v0))) k2 ((by intro h; cases h))
       have k3 := keep2 (.pcells ([PV.int IntKind.i64 0, PV.int IntKind.i64 0, PV.int IntKind.i64 0])) (.pcells (vc (o2.getD v0))) k3 ((by intro h; cases h))
       have hK := hK.trans (Kp.box G (.pcells ([PV.int IntKind.i64 0, PV.int IntKind.i64 0, PV.int IntKind.i64 0])) (.pcells (vc (o2.getD v0))))
       generalize hset (G ++ [HObj.pcells ([PV.int IntKind.i64 0, PV.int IntKind.i64 0, PV.int IntKind.i64 0])]) G.length (.pcells (vc (o2.getD v0))) = G at *
       refine hgetK_has _ k9 ?_
       refine secK_has (v := vc (o1.getD v0)) rfl (of_decide_eq_true rfl) ?_
       refine hgetK_has _ k11 ?_
       refine secK_has (v := vc (o2.getD v0)) rfl (of_decide_eq_true rfl) ?_
       have l2 : H.length + 1 < G.length := hget_lt k2 ((by intro h; cases h))
       have l11 := hget_lt k11 ((by intro h; cases h))
       cases o1
       all_goals
        cases o2
       all_goals
        refine hgetK_has _ k2 ?_
        refine needK_has rfl ?_
        refine eqK_has ?_
        refine hgetK_has _ ((hget_hset_ne _ _ (by omega)).trans k3) ?_
        refine needK_has rfl ?_
        refine eqK_has ?_
        refine sameK_has ?_ ?_ ?_
        · first
            | (rw [k11, hget_hset_ne _ _ (by omega), k11])
            | (rw [hget_hset_ne _ _ (by omega), k11])
        · first | (rw [k11]; rfl) | (rw [hget_hset_ne _ _ (by omega), k11]; rfl)
        refine hgetK_has _ ((hget_hset_ne _ _ (by omega)).trans (hget_hset_same _ l2)) ?_
        refine secK_has rfl (of_decide_eq_true rfl) ?_
        refine hgetK_has _ (hget_hset_same _ (by rw [hset_len]; omega)) ?_
        refine secK_has rfl (of_decide_eq_true rfl) ?_
        exact Has.intro ⟨rfl, (hK.set _ (by omega)).set _ (by omega)⟩
  · exact (hget_app _ (by simp)).trans (by
      have := hget_append_same (H ++ [HObj.cells (pdh p id cap)]) (.pcells ([PV.int IntKind.i64 0, PV.int IntKind.i64 0, PV.int IntKind.i64 0]))
      show hget _ _ = HObj.pcells ([PV.int IntKind.i64 0, PV.int IntKind.i64 0, PV.int IntKind.i64 0])
      simpa using this)
  · have := hget_append_same (H ++ [HObj.cells (pdh p id cap)] ++ [HObj.pcells ([PV.int IntKind.i64 0, PV.int IntKind.i64 0, PV.int IntKind.i64 0])]) (.pcells ([PV.int IntKind.i64 0, PV.int IntKind.i64 0, PV.int IntKind.i64 0]))
    show hget _ _ = HObj.pcells ([PV.int IntKind.i64 0, PV.int IntKind.i64 0, PV.int IntKind.i64 0])
    simpa using this
  · rw [List.append_assoc, List.append_assoc]; exact Kp.app _ _
  · show AV.ptr (H ++ [HObj.cells (pdh p id cap)]).length 0 = _
    rw [List.length_append]; rfl
  · show AV.ptr (H ++ [HObj.cells (pdh p id cap)] ++ [HObj.pcells ([PV.int IntKind.i64 0, PV.int IntKind.i64 0, PV.int IntKind.i64 0])]).length 0 = _
    rw [List.length_append, List.length_append]; rfl
theorem sums_ok (u : AV) (p : Pd) (hl : p.l.length ≤ 1000) (H : Heap) (hu : PA u H p) : Has (EE env (.fn 37) [u] H) (fun y => y.1 = .pv (sum3 p.l) ∧ Kp H y.2) := by
  rcases hu with ⟨x, rfl⟩ | ⟨id, cap, rfl, hid⟩
  · exact sums_plain x p hl H
  · exact sums_hs id cap p hl H hid
end Go.Proofs.Ytnnhkkocdgegfaa
