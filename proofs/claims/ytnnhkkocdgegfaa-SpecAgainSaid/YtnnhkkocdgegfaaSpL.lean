/-
  Right pods.
-/
import Derived.Test.YtnnhkkocdgegfaaSpK
set_option linter.all false
set_option linter.unusedVariables false
set_option linter.unusedSimpArgs false
set_option linter.unusedSectionVars false
namespace Go.Proofs.Ytnnhkkocdgegfaa
open Go Go.VM

def podP (p : Pd) : Prop := nameB p.name = true ∧ (-1000 ≤ p.prio ∧ p.prio ≤ 1000) ∧ (0 ≤ p.pol ∧ p.pol ≤ 2) ∧ (1 ≤ p.l.length ∧ p.l.length ≤ 6) ∧ (∀ (i : Nat) (c : Ct), p.l[i]? = some c → findI c.name p.l = (i : Int) ∧ cP c) ∧ (sumV (rqs p.l)).isSome = true ∧ (sumV (lms p.l)).isSome = true
noncomputable instance (p : Pd) : Decidable (podP p) := Classical.propDecidable _
theorem findF_mem {name : List UInt8} : ∀ (l : List Ct) (i : Nat) (c : Ct), c ∈ l → c.name = name → 0 ≤ findF name i l := by
  intro l
  induction l with
  | nil => intro i c h; cases h
  | cons d l ih =>
    intro i c h hn
    unfold findF
    split
    · omega
    · rename_i hd
      rcases List.mem_cons.1 h with rfl | h
      · exact absurd hn hd
      · exact ih _ c h hn
/-- What can be read of a pod. -/
def small (p : Pd) : Prop := p.name.length ≤ maxLen ∧ p.l.length ≤ maxLen ∧ ∀ c ∈ p.l, c.name.length ≤ maxLen
set_option maxRecDepth 20000 in
set_option maxHeartbeats 4000000 in
theorem pod_plain (x : Ext) (p : Pd) (hs : small p) (H : Heap) :
    Has (EE env (.fn 18) [.pv (.agg (pdc p x))] H) (fun y => y.1 = .pv (.bool (decide (podP p))) ∧ Kp H y.2) := by
  obtain ⟨hs1, hs2, hs3⟩ := hs
  have hl := hs2
  rw [maxLen_eq] at hl
  have k1 := hget_append_same H (HObj.pcells (pdc p x))
  have hK := Kp.app H [HObj.pcells (pdc p x)]
  refine EE_has ?_
  refine hgetK_has _ k1 ?_
  refine getK_has rfl ?_
  refine hgetK_has _ k1 ?_
  refine getK_has rfl ?_
  have bad : ∀ {G : Heap}, Kp H G → ¬ podP p → (fun y : AV × Heap => y.1 = .pv (.bool (decide (podP p))) ∧ Kp H y.2) (AV.pv (.bool false), G) := fun hK h => ⟨congrArg AV.pv (no (p := podP p) h), hK⟩
  refine callPK_dec (name_dec p.name hs1) (fun h1 => ?_) (fun h1 => ?_)
  rotate_left
  · exact Has.intro (bad hK fun h => h1 h.1)
  refine hgetK_has _ k1 ?_
  refine getK_has rfl ?_
  refine boolK_dec (fun h2 => ?_) (fun h2 => ?_)
  · exact Has.intro (bad hK fun h => by have := h.2.1; omega)
  refine hgetK_has _ k1 ?_
  refine getK_has rfl ?_
  refine boolK_dec (fun h3 => ?_) (fun h3 => ?_)
  · exact Has.intro (bad hK fun h => by have := h.2.1; omega)
  refine hgetK_has _ k1 ?_
  refine getK_has rfl ?_
  refine boolK_dec (fun h4 => ?_) (fun h4 => ?_)
  · exact Has.intro (bad hK fun h => by have := h.2.2.1; omega)
  refine hgetK_has _ k1 ?_
  refine getK_has rfl ?_
  refine boolK_dec (fun h5 => ?_) (fun h5 => ?_)
  · exact Has.intro (bad hK fun h => by have := h.2.2.1; omega)
  refine boolK_dec (fun h6 => ?_) (fun h6 => ?_)
  · exact Has.intro (bad hK fun h => by have := h.2.2.2.1; omega)
  refine boolK_dec (fun h7 => ?_) (fun h7 => ?_)
  · exact Has.intro (bad hK fun h => by have := h.2.2.2.1; omega)
  refine hgetK_has _ k1 ?_
  refine getK_has rfl ?_
  refine loopK_has ?_
  refine iterE_loop (σ := Nat × Heap) (fun s => p.l.length - s.1) (fun s => [(1, .ptr H.length 0), (47, .pv (.sl x p.l.length (flat ct p.l))), (48, .pv (.int .i64 p.l.length)), (49, .pv (.int .i64 s.1))]) (fun s => s.2)
    (fun s => s.1 ≤ p.l.length ∧ Kp H s.2 ∧ hget s.2 H.length = .pcells (pdc p x) ∧ ∀ (j : Nat) (c : Ct), j < s.1 → p.l[j]? = some c → findI c.name p.l = (j : Int) ∧ cP c) (fun ⟨i, G⟩ ⟨hi, hK, k1, hA⟩ r => ?_) (0, _) ⟨Nat.zero_le _, hK, k1, fun j c h => by omega⟩ ⟨rfl, rfl, rfl, rfl, trivial⟩ rfl
  dsimp only at hi hK k1 hA ⊢
  refine boolK_dec (fun hc => ?_) (fun hc => ?_)
  · have hlt : i < p.l.length := by omega
    obtain ⟨c, hcg⟩ : ∃ c, p.l[i]? = some c := ⟨_, List.getElem?_eq_getElem hlt⟩
    obtain ⟨g1, g2⟩ := flat_get ct_len hcg
    have hmem : c ∈ p.l := List.mem_of_getElem? hcg
    refine needK_has (by (first | rfl | (simp; done) | (simp; omega))) ?_
    refine secK_has g1 g2 ?_
    refine hgetK_last ?_
    refine needK_has rfl ?_
    refine eqK_has_eq (ct c) rfl ?_
    have k5 := hget_hset_same (H := G ++ [HObj.pcells ([PV.str ⟨#[]⟩, PV.int IntKind.i64 0, PV.int IntKind.i64 0, PV.int IntKind.i64 0, PV.int IntKind.i64 0, PV.int IntKind.i64 0, PV.int IntKind.i64 0, PV.bool false, PV.bool false, PV.bool false])]) (id := G.length) (.pcells (ct c)) (by simp)
    have k1 := keep2 (.pcells ([PV.str ⟨#[]⟩, PV.int IntKind.i64 0, PV.int IntKind.i64 0, PV.int IntKind.i64 0, PV.int IntKind.i64 0, PV.int IntKind.i64 0, PV.int IntKind.i64 0, PV.bool false, PV.bool false, PV.bool false])) (.pcells (ct c)) k1 ((by intro h; cases h))
    have hK := hK.trans (Kp.box G (.pcells ([PV.str ⟨#[]⟩, PV.int IntKind.i64 0, PV.int IntKind.i64 0, PV.int IntKind.i64 0, PV.int IntKind.i64 0, PV.int IntKind.i64 0, PV.int IntKind.i64 0, PV.bool false, PV.bool false, PV.bool false])) (.pcells (ct c)))
    generalize hset (G ++ [HObj.pcells ([PV.str ⟨#[]⟩, PV.int IntKind.i64 0, PV.int IntKind.i64 0, PV.int IntKind.i64 0, PV.int IntKind.i64 0, PV.int IntKind.i64 0, PV.int IntKind.i64 0, PV.bool false, PV.bool false, PV.bool false])]) G.length (.pcells (ct c)) = G at *
    refine hgetK_has _ k1 ?_
    refine secK_has (v := pdc p x) rfl (of_decide_eq_true rfl) ?_
    refine hgetK_has _ k5 ?_
    refine getK_has rfl ?_
    refine callSK_has' ((find_ok _ p hs2 c.name G (.inl ⟨x, rfl⟩)).mono fun y hy => ?_)
    obtain ⟨v, H'⟩ := y
    obtain ⟨rfl, J, rfl⟩ := hy
    have k5 := (hget_app J (hget_lt k5 ((by intro h; cases h)))).trans k5
    have k1 := (hget_app J (hget_lt k1 ((by intro h; cases h)))).trans k1
    have hK := hK.trans (Kp.app G J)
    generalize G ++ J = G at *
    have hf := findF_mem p.l 0 c hmem rfl
    have hff : findI c.name p.l = findF c.name 0 p.l := rfl
    rw [← hff] at hf
    refine boolK_bne (fun h8 => ?_) (fun h8 => ?_)
    · refine Has.intro (Has.intro (bad hK fun h => ?_))
      have := (h.2.2.2.2.1 i c hcg).1
      rw [if_neg (by omega)] at h8
      exact h8 this
    · rw [if_neg (by omega)] at h8
      refine hgetK_has _ k5 ?_
      refine secK_has (v := ct c) rfl (of_decide_eq_true rfl) ?_
      refine callPK_dec (ctr_ok c (hs3 c hmem)) (fun h9 => ?_) (fun h9 => ?_)
      · refine eqK_has_eq _ (i64_succ (by omega)) ?_
        refine Has.intro ⟨(i + 1, G), ⟨hlt, hK, k1, fun j d hj hd => ?_⟩, (by dsimp only; omega), ⟨rfl, rfl, rfl, rfl, trivial⟩, rfl⟩
        dsimp only at hj
        by_cases e : j = i
        · subst e
          rw [hcg] at hd; injection hd with hd; subst hd
          exact ⟨h8, h9⟩
        · exact hA j d (by omega) hd
      · exact Has.intro (Has.intro (bad hK fun h => h9 (h.2.2.2.2.1 i c hcg).2))
  · have : i = p.l.length := by omega
    subst this
    refine Has.intro ?_
    refine hgetK_has _ k1 ?_
    refine secK_has (v := pdc p x) rfl (of_decide_eq_true rfl) ?_
    refine callSK_has' ((sums_ok _ p (by omega) G (.inl ⟨x, rfl⟩)).mono fun y hy => ?_)
    obtain ⟨v, H'⟩ := y
    obtain ⟨rfl, hK2⟩ := hy
    have hK := hK.trans hK2
    dsimp only at hK ⊢
    refine hgetK_has (.pcells ([PV.int IntKind.i64 0, PV.int IntKind.i64 0, PV.int IntKind.i64 0])) ((hget_app _ (by simp)).trans (hget_append_same H' _)) ?_
    refine needK_has rfl ?_
    refine eqK_has ?_
    refine hgetK_has (.pcells ([PV.int IntKind.i64 0, PV.int IntKind.i64 0, PV.int IntKind.i64 0])) ((hget_hset_ne _ _ (by simp)).trans (hget_append_same _ _)) ?_
    refine needK_has rfl ?_
    refine eqK_has ?_
    refine Has.intro ⟨?_, ((hK.trans ((Kp.app H' [HObj.pcells ([PV.int IntKind.i64 0, PV.int IntKind.i64 0, PV.int IntKind.i64 0])]).trans (Kp.app _ [HObj.pcells ([PV.int IntKind.i64 0, PV.int IntKind.i64 0, PV.int IntKind.i64 0])]))).set _ hK.1).set _ (by have := hK.1; simp; omega)⟩
    show AV.pv (PV.bool ((sumV (rqs p.l)).isSome && (sumV (lms p.l)).isSome)) = _
    congr 2
    rw [Bool.eq_iff_iff, Bool.and_eq_true, decide_eq_true_iff]
    exact ⟨fun h => ⟨h1, by omega, by omega, by omega, fun j c hj => hA j c (List.getElem?_eq_some_iff.1 hj).1 hj, h.1, h.2⟩, fun h => ⟨h.2.2.2.2.2.1, h.2.2.2.2.2.2⟩⟩
set_option maxRecDepth 20000 in
set_option maxHeartbeats 4000000 in
theorem pod_hs (id cap : Nat) (p : Pd) (hs : small p) (H : Heap) (hid : hget H id = .pcells (flat ct p.l)) :
    Has (EE env (.fn 18) [.agg (pdh p id cap)] H) (fun y => y.1 = .pv (.bool (decide (podP p))) ∧ Kp H y.2) := by
  obtain ⟨hs1, hs2, hs3⟩ := hs
  have hl := hs2
  rw [maxLen_eq] at hl
  have k1 := hget_append_same H (HObj.cells (pdh p id cap))
  have hK := Kp.app H [HObj.cells (pdh p id cap)]
  refine EE_has ?_
  refine hgetK_has _ k1 ?_
  refine hgetK_has _ k1 ?_
  have bad : ∀ {G : Heap}, Kp H G → ¬ podP p → (fun y : AV × Heap => y.1 = .pv (.bool (decide (podP p))) ∧ Kp H y.2) (AV.pv (.bool false), G) := fun hK h => ⟨congrArg AV.pv (no (p := podP p) h), hK⟩
  refine callPK_dec (name_dec p.name hs1) (fun h1 => ?_) (fun h1 => ?_)
  rotate_left
  · exact Has.intro (bad hK fun h => h1 h.1)
  refine hgetK_has _ k1 ?_
  refine boolK_dec (fun h2 => ?_) (fun h2 => ?_)
  · exact Has.intro (bad hK fun h => by have := h.2.1; omega)
  refine hgetK_has _ k1 ?_
  refine boolK_dec (fun h3 => ?_) (fun h3 => ?_)
  · exact Has.intro (bad hK fun h => by have := h.2.1; omega)
  refine hgetK_has _ k1 ?_
  refine boolK_dec (fun h4 => ?_) (fun h4 => ?_)
  · exact Has.intro (bad hK fun h => by have := h.2.2.1; omega)
  refine hgetK_has _ k1 ?_
  refine boolK_dec (fun h5 => ?_) (fun h5 => ?_)
  · exact Has.intro (bad hK fun h => by have := h.2.2.1; omega)
  refine boolK_dec (fun h6 => ?_) (fun h6 => ?_)
  · exact Has.intro (bad hK fun h => by have := h.2.2.2.1; omega)
  refine boolK_dec (fun h7 => ?_) (fun h7 => ?_)
  · exact Has.intro (bad hK fun h => by have := h.2.2.2.1; omega)
  refine hgetK_has _ k1 ?_
  refine loopK_has ?_
  refine iterE_loop (σ := Nat × Heap) (fun s => p.l.length - s.1) (fun s => [(1, .ptr H.length 0), (47, .hs 10 id 0 p.l.length cap), (48, .pv (.int .i64 p.l.length)), (49, .pv (.int .i64 s.1))]) (fun s => s.2)
    (fun s => s.1 ≤ p.l.length ∧ Kp H s.2 ∧ hget s.2 H.length = .cells (pdh p id cap) ∧ ∀ (j : Nat) (c : Ct), j < s.1 → p.l[j]? = some c → findI c.name p.l = (j : Int) ∧ cP c) (fun ⟨i, G⟩ ⟨hi, hK, k1, hA⟩ r => ?_) (0, _) ⟨Nat.zero_le _, hK, k1, fun j c h => by omega⟩ ⟨rfl, rfl, rfl, rfl, trivial⟩ rfl
  dsimp only at hi hK k1 hA ⊢
  refine boolK_dec (fun hc => ?_) (fun hc => ?_)
  · have hlt : i < p.l.length := by omega
    obtain ⟨c, hcg⟩ : ∃ c, p.l[i]? = some c := ⟨_, List.getElem?_eq_getElem hlt⟩
    obtain ⟨g1, g2⟩ := flat_get ct_len hcg
    have hmem : c ∈ p.l := List.mem_of_getElem? hcg
    refine needK_has (by (first | rfl | (simp; done) | (simp; omega))) ?_
    refine hgetK_has _ (hK.2 _ _ hid ((by intro h; cases h)) ((fun _ _ h => by cases h))) ?_
    refine secK_has (v := ct c) (by rw [at10]; exact g1) (by rw [at10]; exact g2) ?_
    refine hgetK_last ?_
    refine needK_has rfl ?_
    refine eqK_has_eq (ct c) rfl ?_
    have k5 := hget_hset_same (H := G ++ [HObj.pcells ([PV.str ⟨#[]⟩, PV.int IntKind.i64 0, PV.int IntKind.i64 0, PV.int IntKind.i64 0, PV.int IntKind.i64 0, PV.int IntKind.i64 0, PV.int IntKind.i64 0, PV.bool false, PV.bool false, PV.bool false])]) (id := G.length) (.pcells (ct c)) (by simp)
    have k1 := keep2 (.pcells ([PV.str ⟨#[]⟩, PV.int IntKind.i64 0, PV.int IntKind.i64 0, PV.int IntKind.i64 0, PV.int IntKind.i64 0, PV.int IntKind.i64 0, PV.int IntKind.i64 0, PV.bool false, PV.bool false, PV.bool false])) (.pcells (ct c)) k1 ((by intro h; cases h))
    have hK := hK.trans (Kp.box G (.pcells ([PV.str ⟨#[]⟩, PV.int IntKind.i64 0, PV.int IntKind.i64 0, PV.int IntKind.i64 0, PV.int IntKind.i64 0, PV.int IntKind.i64 0, PV.int IntKind.i64 0, PV.bool false, PV.bool false, PV.bool false])) (.pcells (ct c)))
    generalize hset (G ++ [HObj.pcells ([PV.str ⟨#[]⟩, PV.int IntKind.i64 0, PV.int IntKind.i64 0, PV.int IntKind.i64 0, PV.int IntKind.i64 0, PV.int IntKind.i64 0, PV.int IntKind.i64 0, PV.bool false, PV.bool false, PV.bool false])]) G.length (.pcells (ct c)) = G at *
    refine hgetK_has _ k1 ?_
    refine hgetK_has _ k5 ?_
    refine getK_has rfl ?_
    refine callSK_has' ((find_ok _ p hs2 c.name G (.inr ⟨id, cap, rfl, hK.2 _ _ hid ((by intro h; cases h)) ((fun _ _ h => by cases h))⟩)).mono fun y hy => ?_)
    obtain ⟨v, H'⟩ := y
    obtain ⟨rfl, J, rfl⟩ := hy
    have k5 := (hget_app J (hget_lt k5 ((by intro h; cases h)))).trans k5
    have k1 := (hget_app J (hget_lt k1 ((by intro h; cases h)))).trans k1
    have hK := hK.trans (Kp.app G J)
    generalize G ++ J = G at *
    have hf := findF_mem p.l 0 c hmem rfl
    have hff : findI c.name p.l = findF c.name 0 p.l := rfl
    rw [← hff] at hf
    refine boolK_bne (fun h8 => ?_) (fun h8 => ?_)
    · refine Has.intro (Has.intro (bad hK fun h => ?_))
      have := (h.2.2.2.2.1 i c hcg).1
      rw [if_neg (by omega)] at h8
      exact h8 this
    · rw [if_neg (by omega)] at h8
      refine hgetK_has _ k5 ?_
      refine secK_has (v := ct c) rfl (of_decide_eq_true rfl) ?_
      refine callPK_dec (ctr_ok c (hs3 c hmem)) (fun h9 => ?_) (fun h9 => ?_)
      · refine eqK_has_eq _ (i64_succ (by omega)) ?_
        refine Has.intro ⟨(i + 1, G), ⟨hlt, hK, k1, fun j d hj hd => ?_⟩, (by dsimp only; omega), ⟨rfl, rfl, rfl, rfl, trivial⟩, rfl⟩
        dsimp only at hj
        by_cases e : j = i
        · subst e
          rw [hcg] at hd; injection hd with hd; subst hd
          exact ⟨h8, h9⟩
        · exact hA j d (by omega) hd
      · exact Has.intro (Has.intro (bad hK fun h => h9 (h.2.2.2.2.1 i c hcg).2))
  · have : i = p.l.length := by omega
    subst this
    refine Has.intro ?_
    refine hgetK_has _ k1 ?_
    refine callSK_has' ((sums_ok _ p (by omega) G (.inr ⟨id, cap, rfl, hK.2 _ _ hid ((by intro h; cases h)) ((fun _ _ h => by cases h))⟩)).mono fun y hy => ?_)
    obtain ⟨v, H'⟩ := y
    obtain ⟨rfl, hK2⟩ := hy
    have hK := hK.trans hK2
    dsimp only at hK ⊢
    refine hgetK_has (.pcells ([PV.int IntKind.i64 0, PV.int IntKind.i64 0, PV.int IntKind.i64 0])) ((hget_app _ (by simp)).trans (hget_append_same H' _)) ?_
    refine needK_has rfl ?_
    refine eqK_has ?_
    refine hgetK_has (.pcells ([PV.int IntKind.i64 0, PV.int IntKind.i64 0, PV.int IntKind.i64 0])) ((hget_hset_ne _ _ (by simp)).trans (hget_append_same _ _)) ?_
    refine needK_has rfl ?_
    refine eqK_has ?_
    refine Has.intro ⟨?_, ((hK.trans ((Kp.app H' [HObj.pcells ([PV.int IntKind.i64 0, PV.int IntKind.i64 0, PV.int IntKind.i64 0])]).trans (Kp.app _ [HObj.pcells ([PV.int IntKind.i64 0, PV.int IntKind.i64 0, PV.int IntKind.i64 0])]))).set _ hK.1).set _ (by have := hK.1; simp; omega)⟩
    show AV.pv (PV.bool ((sumV (rqs p.l)).isSome && (sumV (lms p.l)).isSome)) = _
    congr 2
    rw [Bool.eq_iff_iff, Bool.and_eq_true, decide_eq_true_iff]
    exact ⟨fun h => ⟨h1, by omega, by omega, by omega, fun j c hj => hA j c (List.getElem?_eq_some_iff.1 hj).1 hj, h.1, h.2⟩, fun h => ⟨h.2.2.2.2.2.1, h.2.2.2.2.2.2⟩⟩
theorem pod_ok (u : AV) (p : Pd) (hs : small p) (H : Heap) (hu : PA u H p) : Has (EE env (.fn 18) [u] H) (fun y => y.1 = .pv (.bool (decide (podP p))) ∧ Kp H y.2) := by
  rcases hu with ⟨x, rfl⟩ | ⟨id, cap, rfl, hid⟩
  · exact pod_plain x p hs H
  · exact pod_hs id cap p hs H hid
end Go.Proofs.Ytnnhkkocdgegfaa
