/-
  Right pods: the document's.
-/
import Derived.Test.YtnnhkkocdgegfaaSpL
set_option linter.all false
set_option linter.unusedVariables false
set_option linter.unusedSimpArgs false
set_option linter.unusedSectionVars false
namespace Go.Proofs.Ytnnhkkocdgegfaa
open Go Go.VM

theorem flat10 {l : List Ct} {i : Nat} (h : i ≤ l.length) : ((flat ct l).drop (mulE 0 10)).take (mulE (((i : Nat) : Int).toNat - 0) 10) = flat ct (l.take i) := by
  show ((flat ct l).drop 0).take (i * 10) = _
  rw [List.drop_zero]
  conv => lhs; rw [← List.take_append_drop i l, ← flat_app]
  have hl : (flat ct (l.take i)).length = i * 10 := by rw [flat_len ct_len, List.length_take]; congr 1; omega
  rw [List.take_append_of_le_length (by omega), List.take_of_length_le (by omega)]
/-- What a list becomes by an append to one that was just made. -/
theorem findF_first {name : List UInt8} : ∀ (l : List Ct) (k i : Nat) (c : Ct), l[i]? = some c → c.name = name → (∀ (j : Nat) (d : Ct), j < i → l[j]? = some d → d.name ≠ name) → findF name k l = ((k + i : Nat) : Int) := by
  intro l
  induction l with
  | nil => intro k i c h; simp at h
  | cons d l ih =>
    intro k i c h hn ha
    unfold findF
    cases i with
    | zero =>
      simp at h; subst h
      rw [if_pos hn]; rfl
    | succ i =>
      rw [if_neg (ha 0 d (by omega) rfl)]
      simp at h
      rw [ih (k + 1) i c h hn (fun j e hj he => ha (j + 1) e (by omega) (by simpa using he))]
      congr 1; omega
theorem findF_early {name : List UInt8} : ∀ (l : List Ct) (k j : Nat) (d : Ct), l[j]? = some d → d.name = name → findF name k l ≤ ((k + j : Nat) : Int) := by
  intro l
  induction l with
  | nil => intro k i c h; simp at h
  | cons d l ih =>
    intro k j e h hn
    unfold findF
    split
    · omega
    · rename_i hd
      cases j with
      | zero => simp at h; subst h; exact absurd hn hd
      | succ j =>
        simp at h
        have := ih (k + 1) j e h hn
        omega
set_option maxRecDepth 20000 in
set_option maxHeartbeats 4000000 in
theorem rpod_plain (x : Ext) (p : Pd) (hs : small p) (H : Heap) :
    Has (EE env (.fn 19) [.pv (.agg (pdc p x))] H) (fun y => y.1 = .pv (.bool (decide (podP p))) ∧ Kp H y.2) := by
  obtain ⟨hs1, hs2, hs3⟩ := hs
  have hl := hs2
  rw [maxLen_eq] at hl
  have k1 := hget_append_same H (HObj.pcells (pdc p x))
  have hK := Kp.app H [HObj.pcells (pdc p x)]
  refine EE_has ?_
  refine hgetK_has _ k1 ?_
  refine getK_has rfl ?_
  have bad : ∀ {G : Heap}, Kp H G → ¬ podP p → (fun y : AV × Heap => y.1 = .pv (.bool (decide (podP p))) ∧ Kp H y.2) (AV.pv (.bool false), G) := fun hK h => ⟨congrArg AV.pv (no (p := podP p) h), hK⟩
  refine callPK_dec (rname_dec p.name hs1) (fun h1 => ?_) (fun h1 => ?_)
  rotate_left
  · exact Has.intro (bad hK fun h => h1 h.1)
  refine hgetK_has _ k1 ?_
  refine getK_has rfl ?_
  refine boolK_dec (fun h2 => ?_) (fun h2 => ?_)
  · exact Has.intro (bad hK fun h => by have := h.2.1; omega)
  refine hgetK_has _ k1 ?_
  refine getK_has rfl ?_
  refine boolK_dec (fun h3 => ?_) (fun h3 => ?_)
  · exact Has.intro (bad hK fun h => by have := h.2.1; omega)
  refine hgetK_has _ k1 ?_
  refine getK_has rfl ?_
  refine boolK_dec (fun h4 => ?_) (fun h4 => ?_)
  · exact Has.intro (bad hK fun h => by have := h.2.2.1; omega)
  refine hgetK_has _ k1 ?_
  refine getK_has rfl ?_
  refine boolK_dec (fun h5 => ?_) (fun h5 => ?_)
  · exact Has.intro (bad hK fun h => by have := h.2.2.1; omega)
  refine hgetK_has _ k1 ?_
  refine getK_has rfl ?_
  refine boolK_dec (fun h6 => ?_) (fun h6 => ?_)
  · exact Has.intro (bad hK fun h => by have := h.2.2.2.1; omega)
  refine hgetK_has _ k1 ?_
  refine getK_has rfl ?_
  refine boolK_dec (fun h7 => ?_) (fun h7 => ?_)
  · exact Has.intro (bad hK fun h => by have := h.2.2.2.1; omega)
  refine hgetK_has _ k1 ?_
  refine getK_has rfl ?_
  refine loopK_has ?_
  refine iterE_loop (σ := Nat × Heap) (fun s => p.l.length - s.1) (fun s => [(1, .ptr H.length 0), (47, .pv (.sl x p.l.length (flat ct p.l))), (48, .pv (.int .i64 p.l.length)), (49, .pv (.int .i64 s.1))]) (fun s => s.2)
    (fun s => s.1 ≤ p.l.length ∧ Kp H s.2 ∧ hget s.2 H.length = .pcells (pdc p x) ∧ ∀ (j : Nat) (c : Ct), j < s.1 → p.l[j]? = some c → findI c.name p.l = (j : Int) ∧ cP c) (fun ⟨i, G⟩ ⟨hi, hK, k1, hA⟩ r => ?_) (0, _) ⟨Nat.zero_le _, hK, k1, fun j c h => by omega⟩ ⟨rfl, rfl, rfl, rfl, trivial⟩ rfl
  dsimp only at hi hK k1 hA ⊢
  refine boolK_dec (fun hc => ?_) (fun hc => ?_)
  · have hlt : i < p.l.length := by omega
    obtain ⟨c, hcg⟩ : ∃ c, p.l[i]? = some c := ⟨_, List.getElem?_eq_getElem hlt⟩
    obtain ⟨g1, g2⟩ := flat_get ct_len hcg
    have hmem : c ∈ p.l := List.mem_of_getElem? hcg
    refine needK_has (by (first | rfl | (simp; done) | (simp; omega))) ?_
    refine secK_has g1 g2 ?_
    refine hgetK_last ?_
    refine needK_has rfl ?_
    refine eqK_has_eq (ct c) rfl ?_
    obtain ⟨q, hq⟩ : ∃ q, q = G.length := ⟨_, rfl⟩
    have k5 := hget_hset_same (H := G ++ [HObj.pcells ([PV.str ⟨#[]⟩, PV.int IntKind.i64 0, PV.int IntKind.i64 0, PV.int IntKind.i64 0, PV.int IntKind.i64 0, PV.int IntKind.i64 0, PV.int IntKind.i64 0, PV.bool false, PV.bool false, PV.bool false])]) (id := G.length) (.pcells (ct c)) (by simp)
    have k1 := keep2 (.pcells ([PV.str ⟨#[]⟩, PV.int IntKind.i64 0, PV.int IntKind.i64 0, PV.int IntKind.i64 0, PV.int IntKind.i64 0, PV.int IntKind.i64 0, PV.int IntKind.i64 0, PV.bool false, PV.bool false, PV.bool false])) (.pcells (ct c)) k1 ((by intro h; cases h))
    have hK := hK.trans (Kp.box G (.pcells ([PV.str ⟨#[]⟩, PV.int IntKind.i64 0, PV.int IntKind.i64 0, PV.int IntKind.i64 0, PV.int IntKind.i64 0, PV.int IntKind.i64 0, PV.int IntKind.i64 0, PV.bool false, PV.bool false, PV.bool false])) (.pcells (ct c)))
    generalize hset (G ++ [HObj.pcells ([PV.str ⟨#[]⟩, PV.int IntKind.i64 0, PV.int IntKind.i64 0, PV.int IntKind.i64 0, PV.int IntKind.i64 0, PV.int IntKind.i64 0, PV.int IntKind.i64 0, PV.bool false, PV.bool false, PV.bool false])]) G.length (.pcells (ct c)) = G at *
    rw [← hq] at k5 ⊢
    refine hgetK_has _ k5 ?_
    refine secK_has (v := ct c) rfl (of_decide_eq_true rfl) ?_
    refine callPK_dec (rctr_ok c (hs3 c hmem)) (fun h9 => ?_) (fun h9 => ?_)
    rotate_left
    · exact Has.intro (Has.intro (bad hK fun h => h9 (h.2.2.2.2.1 i c hcg).2))
    refine hgetK_has _ k1 ?_
    refine getK_has rfl ?_
    refine needK_has (by (first | rfl | (simp; done) | (simp; omega))) ?_
    refine eqK_has_eq (flat ct (p.l.take i)) (flat10 hi) ?_
    refine loopK_has ?_
    refine iterE_loop (σ := Nat × Heap) (fun s => i - s.1) (fun s => [(1, .ptr H.length 0), (4, .ptr q 0), (47, .pv (.sl x p.l.length (flat ct p.l))), (48, .pv (.int .i64 p.l.length)), (49, .pv (.int .i64 i)), (60, .pv (.sl (x.part false false) i (flat ct (p.l.take i)))), (61, .pv (.int .i64 i)), (62, .pv (.int .i64 s.1))]) (fun s => s.2)
      (fun s => s.1 ≤ i ∧ Kp H s.2 ∧ hget s.2 H.length = .pcells (pdc p x) ∧ hget s.2 q = .pcells (ct c) ∧ ∀ (j : Nat) (d : Ct), j < s.1 → p.l[j]? = some d → d.name ≠ c.name) (fun ⟨m, G⟩ ⟨hm, hK, k1, k5, hB⟩ r => ?_) (0, _) ⟨Nat.zero_le _, hK, k1, k5, fun j d h => by omega⟩ ⟨rfl, rfl, rfl, rfl, rfl, rfl, rfl, rfl, trivial⟩ rfl
    dsimp only at hm hK k1 k5 hB ⊢
    refine boolK_dec (fun hc2 => ?_) (fun hc2 => ?_)
    · have hlt2 : m < i := by omega
      obtain ⟨d, hdg⟩ : ∃ d, p.l[m]? = some d := ⟨_, List.getElem?_eq_getElem (show m < p.l.length by omega)⟩
      have hdt : (p.l.take i)[m]? = some d := by rw [List.getElem?_take_of_lt hlt2]; exact hdg
      obtain ⟨f1, f2⟩ := flat_get ct_len hdt
      refine needK_has (by (first | rfl | (simp; done) | (simp; omega))) ?_
      refine secK_has f1 f2 ?_
      refine hgetK_last ?_
      refine needK_has rfl ?_
      refine eqK_has_eq (ct d) rfl ?_
      have k6 := hget_hset_same (H := G ++ [HObj.pcells ([PV.str ⟨#[]⟩, PV.int IntKind.i64 0, PV.int IntKind.i64 0, PV.int IntKind.i64 0, PV.int IntKind.i64 0, PV.int IntKind.i64 0, PV.int IntKind.i64 0, PV.bool false, PV.bool false, PV.bool false])]) (id := G.length) (.pcells (ct d)) (by simp)
      have k5 := keep2 (.pcells ([PV.str ⟨#[]⟩, PV.int IntKind.i64 0, PV.int IntKind.i64 0, PV.int IntKind.i64 0, PV.int IntKind.i64 0, PV.int IntKind.i64 0, PV.int IntKind.i64 0, PV.bool false, PV.bool false, PV.bool false])) (.pcells (ct d)) k5 ((by intro h; cases h))
      have k1 := keep2 (.pcells ([PV.str ⟨#[]⟩, PV.int IntKind.i64 0, PV.int IntKind.i64 0, PV.int IntKind.i64 0, PV.int IntKind.i64 0, PV.int IntKind.i64 0, PV.int IntKind.i64 0, PV.bool false, PV.bool false, PV.bool false])) (.pcells (ct d)) k1 ((by intro h; cases h))
      have hK := hK.trans (Kp.box G (.pcells ([PV.str ⟨#[]⟩, PV.int IntKind.i64 0, PV.int IntKind.i64 0, PV.int IntKind.i64 0, PV.int IntKind.i64 0, PV.int IntKind.i64 0, PV.int IntKind.i64 0, PV.bool false, PV.bool false, PV.bool false])) (.pcells (ct d)))
      generalize hset (G ++ [HObj.pcells ([PV.str ⟨#[]⟩, PV.int IntKind.i64 0, PV.int IntKind.i64 0, PV.int IntKind.i64 0, PV.int IntKind.i64 0, PV.int IntKind.i64 0, PV.int IntKind.i64 0, PV.bool false, PV.bool false, PV.bool false])]) G.length (.pcells (ct d)) = G at *
      refine hgetK_has _ k5 ?_
      refine getK_has rfl ?_
      refine hgetK_has _ k6 ?_
      refine getK_has rfl ?_
      refine boolK_has_eq (c := decide (c.name = d.name)) (str_beq _ _) ?_
      by_cases hn : c.name = d.name
      · rw [decide_eq_true hn]
        refine Has.intro (Has.intro (Has.intro (bad hK fun h => ?_)))
        have h1 := (h.2.2.2.2.1 i c hcg).1
        have h2 := findF_early p.l 0 m d hdg hn.symm
        have h3 : findI c.name p.l = findF c.name 0 p.l := rfl
        omega
      · rw [decide_eq_false hn]
        refine eqK_has_eq _ (i64_succ (by omega)) ?_
        refine Has.intro ⟨(m + 1, G), ⟨hlt2, hK, k1, k5, fun j e hj he => ?_⟩, (by dsimp only; omega), ⟨rfl, rfl, rfl, rfl, rfl, rfl, rfl, rfl, trivial⟩, rfl⟩
        dsimp only at hj
        by_cases ej : j = m
        · subst ej
          rw [hdg] at he; injection he with he; subst he
          exact fun e => hn e.symm
        · exact hB j e (by omega) he
    · refine Has.intro ?_
      refine eqK_has_eq _ (i64_succ (by omega)) ?_
      refine Has.intro ⟨(i + 1, G), ⟨hlt, hK, k1, fun j d hj hd => ?_⟩, (by dsimp only; omega), ⟨rfl, rfl, rfl, rfl, trivial⟩, rfl⟩
      dsimp only at hj
      by_cases e : j = i
      · subst e
        rw [hcg] at hd; injection hd with hd; subst hd
        refine ⟨?_, h9⟩
        have := findF_first p.l 0 j c hcg rfl (fun m d hm hd => hB m d (by omega) hd)
        rw [Nat.zero_add] at this
        exact this
      · exact hA j d (by omega) hd
  · have : i = p.l.length := by omega
    subst this
    refine Has.intro ?_
    refine hgetK_has _ k1 ?_
    refine secK_has (v := pdc p x) rfl (of_decide_eq_true rfl) ?_
    refine callSK_has' ((rsums_ok _ p (by omega) G (.inl ⟨x, rfl⟩)).mono fun y hy => ?_)
    obtain ⟨v, H'⟩ := y
    obtain ⟨rfl, hK2⟩ := hy
    have hK := hK.trans hK2
    dsimp only at hK ⊢
    refine hgetK_has (.pcells ([PV.int IntKind.i64 0, PV.int IntKind.i64 0, PV.int IntKind.i64 0])) ((hget_app _ (by simp)).trans (hget_append_same H' _)) ?_
    refine needK_has rfl ?_
    refine eqK_has ?_
    refine hgetK_has (.pcells ([PV.int IntKind.i64 0, PV.int IntKind.i64 0, PV.int IntKind.i64 0])) ((hget_hset_ne _ _ (by simp)).trans (hget_append_same _ _)) ?_
    refine needK_has rfl ?_
    refine eqK_has ?_
    refine Has.intro ⟨?_, ((hK.trans ((Kp.app H' [HObj.pcells ([PV.int IntKind.i64 0, PV.int IntKind.i64 0, PV.int IntKind.i64 0])]).trans (Kp.app _ [HObj.pcells ([PV.int IntKind.i64 0, PV.int IntKind.i64 0, PV.int IntKind.i64 0])]))).set _ hK.1).set _ (by have := hK.1; simp; omega)⟩
    show AV.pv (PV.bool ((sumV (rqs p.l)).isSome && (sumV (lms p.l)).isSome)) = _
    congr 2
    rw [Bool.eq_iff_iff, Bool.and_eq_true, decide_eq_true_iff]
    exact ⟨fun h => ⟨h1, by omega, by omega, by omega, fun j c hj => hA j c (List.getElem?_eq_some_iff.1 hj).1 hj, h.1, h.2⟩, fun h => ⟨h.2.2.2.2.2.1, h.2.2.2.2.2.2⟩⟩
set_option maxRecDepth 20000 in
set_option maxHeartbeats 4000000 in
theorem rpod_hs (id cap : Nat) (p : Pd) (hs : small p) (H : Heap) (hid : hget H id = .pcells (flat ct p.l)) :
    Has (EE env (.fn 19) [.agg (pdh p id cap)] H) (fun y => y.1 = .pv (.bool (decide (podP p))) ∧ Kp H y.2) := by
  obtain ⟨hs1, hs2, hs3⟩ := hs
  have hl := hs2
  rw [maxLen_eq] at hl
  have k1 := hget_append_same H (HObj.cells (pdh p id cap))
  have hK := Kp.app H [HObj.cells (pdh p id cap)]
  refine EE_has ?_
  refine hgetK_has _ k1 ?_
  have bad : ∀ {G : Heap}, Kp H G → ¬ podP p → (fun y : AV × Heap => y.1 = .pv (.bool (decide (podP p))) ∧ Kp H y.2) (AV.pv (.bool false), G) := fun hK h => ⟨congrArg AV.pv (no (p := podP p) h), hK⟩
  refine callPK_dec (rname_dec p.name hs1) (fun h1 => ?_) (fun h1 => ?_)
  rotate_left
  · exact Has.intro (bad hK fun h => h1 h.1)
  refine hgetK_has _ k1 ?_
  refine boolK_dec (fun h2 => ?_) (fun h2 => ?_)
  · exact Has.intro (bad hK fun h => by have := h.2.1; omega)
  refine hgetK_has _ k1 ?_
  refine boolK_dec (fun h3 => ?_) (fun h3 => ?_)
  · exact Has.intro (bad hK fun h => by have := h.2.1; omega)
  refine hgetK_has _ k1 ?_
  refine boolK_dec (fun h4 => ?_) (fun h4 => ?_)
  · exact Has.intro (bad hK fun h => by have := h.2.2.1; omega)
  refine hgetK_has _ k1 ?_
  refine boolK_dec (fun h5 => ?_) (fun h5 => ?_)
  · exact Has.intro (bad hK fun h => by have := h.2.2.1; omega)
  refine hgetK_has _ k1 ?_
  refine boolK_dec (fun h6 => ?_) (fun h6 => ?_)
  · exact Has.intro (bad hK fun h => by have := h.2.2.2.1; omega)
  refine hgetK_has _ k1 ?_
  refine boolK_dec (fun h7 => ?_) (fun h7 => ?_)
  · exact Has.intro (bad hK fun h => by have := h.2.2.2.1; omega)
  refine hgetK_has _ k1 ?_
  refine loopK_has ?_
  refine iterE_loop (σ := Nat × Heap) (fun s => p.l.length - s.1) (fun s => [(1, .ptr H.length 0), (47, .hs 10 id 0 p.l.length cap), (48, .pv (.int .i64 p.l.length)), (49, .pv (.int .i64 s.1))]) (fun s => s.2)
    (fun s => s.1 ≤ p.l.length ∧ Kp H s.2 ∧ hget s.2 H.length = .cells (pdh p id cap) ∧ ∀ (j : Nat) (c : Ct), j < s.1 → p.l[j]? = some c → findI c.name p.l = (j : Int) ∧ cP c) (fun ⟨i, G⟩ ⟨hi, hK, k1, hA⟩ r => ?_) (0, _) ⟨Nat.zero_le _, hK, k1, fun j c h => by omega⟩ ⟨rfl, rfl, rfl, rfl, trivial⟩ rfl
  dsimp only at hi hK k1 hA ⊢
  refine boolK_dec (fun hc => ?_) (fun hc => ?_)
  · have hlt : i < p.l.length := by omega
    obtain ⟨c, hcg⟩ : ∃ c, p.l[i]? = some c := ⟨_, List.getElem?_eq_getElem hlt⟩
    obtain ⟨g1, g2⟩ := flat_get ct_len hcg
    have hmem : c ∈ p.l := List.mem_of_getElem? hcg
    refine needK_has (by (first | rfl | (simp; done) | (simp; omega))) ?_
    refine hgetK_has _ (hK.2 _ _ hid ((by intro h; cases h)) ((fun _ _ h => by cases h))) ?_
    refine secK_has (v := ct c) (by rw [at10]; exact g1) (by rw [at10]; exact g2) ?_
    refine hgetK_last ?_
    refine needK_has rfl ?_
    refine eqK_has_eq (ct c) rfl ?_
    obtain ⟨q, hq⟩ : ∃ q, q = G.length := ⟨_, rfl⟩
    have k5 := hget_hset_same (H := G ++ [HObj.pcells ([PV.str ⟨#[]⟩, PV.int IntKind.i64 0, PV.int IntKind.i64 0, PV.int IntKind.i64 0, PV.int IntKind.i64 0, PV.int IntKind.i64 0, PV.int IntKind.i64 0, PV.bool false, PV.bool false, PV.bool false])]) (id := G.length) (.pcells (ct c)) (by simp)
    have k1 := keep2 (.pcells ([PV.str ⟨#[]⟩, PV.int IntKind.i64 0, PV.int IntKind.i64 0, PV.int IntKind.i64 0, PV.int IntKind.i64 0, PV.int IntKind.i64 0, PV.int IntKind.i64 0, PV.bool false, PV.bool false, PV.bool false])) (.pcells (ct c)) k1 ((by intro h; cases h))
    have hK := hK.trans (Kp.box G (.pcells ([PV.str ⟨#[]⟩, PV.int IntKind.i64 0, PV.int IntKind.i64 0, PV.int IntKind.i64 0, PV.int IntKind.i64 0, PV.int IntKind.i64 0, PV.int IntKind.i64 0, PV.bool false, PV.bool false, PV.bool false])) (.pcells (ct c)))
    generalize hset (G ++ [HObj.pcells ([PV.str ⟨#[]⟩, PV.int IntKind.i64 0, PV.int IntKind.i64 0, PV.int IntKind.i64 0, PV.int IntKind.i64 0, PV.int IntKind.i64 0, PV.int IntKind.i64 0, PV.bool false, PV.bool false, PV.bool false])]) G.length (.pcells (ct c)) = G at *
    rw [← hq] at k5 ⊢
    refine hgetK_has _ k5 ?_
    refine secK_has (v := ct c) rfl (of_decide_eq_true rfl) ?_
    refine callPK_dec (rctr_ok c (hs3 c hmem)) (fun h9 => ?_) (fun h9 => ?_)
    rotate_left
    · exact Has.intro (Has.intro (bad hK fun h => h9 (h.2.2.2.2.1 i c hcg).2))
    refine hgetK_has _ k1 ?_
    refine needK_has (by (first | rfl | (simp; done) | (simp; omega))) ?_
    refine needK_has (by first | rfl | simp) ?_
    refine loopK_has ?_
    refine iterE_loop (σ := Nat × Heap) (fun s => i - s.1) (fun s => [(1, .ptr H.length 0), (4, .ptr q 0), (47, .hs 10 id 0 p.l.length cap), (48, .pv (.int .i64 p.l.length)), (49, .pv (.int .i64 i)), (60, .hs 10 id 0 i cap), (61, .pv (.int .i64 i)), (62, .pv (.int .i64 s.1))]) (fun s => s.2)
      (fun s => s.1 ≤ i ∧ Kp H s.2 ∧ hget s.2 H.length = .cells (pdh p id cap) ∧ hget s.2 q = .pcells (ct c) ∧ ∀ (j : Nat) (d : Ct), j < s.1 → p.l[j]? = some d → d.name ≠ c.name) (fun ⟨m, G⟩ ⟨hm, hK, k1, k5, hB⟩ r => ?_) (0, _) ⟨Nat.zero_le _, hK, k1, k5, fun j d h => by omega⟩ ⟨rfl, rfl, rfl, rfl, rfl, rfl, rfl, rfl, trivial⟩ rfl
    dsimp only at hm hK k1 k5 hB ⊢
    refine boolK_dec (fun hc2 => ?_) (fun hc2 => ?_)
    · have hlt2 : m < i := by omega
      obtain ⟨d, hdg⟩ : ∃ d, p.l[m]? = some d := ⟨_, List.getElem?_eq_getElem (show m < p.l.length by omega)⟩
      have hdt : (p.l.take i)[m]? = some d := by rw [List.getElem?_take_of_lt hlt2]; exact hdg
      obtain ⟨f1, f2⟩ := flat_get ct_len hdg
      refine needK_has (by (first | rfl | (simp; done) | (simp; omega))) ?_
      refine hgetK_has _ (hK.2 _ _ hid ((by intro h; cases h)) ((fun _ _ h => by cases h))) ?_
      refine secK_has (v := ct d) (by rw [at10]; exact f1) (by rw [at10]; exact f2) ?_
      refine hgetK_last ?_
      refine needK_has rfl ?_
      refine eqK_has_eq (ct d) rfl ?_
      have k6 := hget_hset_same (H := G ++ [HObj.pcells ([PV.str ⟨#[]⟩, PV.int IntKind.i64 0, PV.int IntKind.i64 0, PV.int IntKind.i64 0, PV.int IntKind.i64 0, PV.int IntKind.i64 0, PV.int IntKind.i64 0, PV.bool false, PV.bool false, PV.bool false])]) (id := G.length) (.pcells (ct d)) (by simp)
      have k5 := keep2 (.pcells ([PV.str ⟨#[]⟩, PV.int IntKind.i64 0, PV.int IntKind.i64 0, PV.int IntKind.i64 0, PV.int IntKind.i64 0, PV.int IntKind.i64 0, PV.int IntKind.i64 0, PV.bool false, PV.bool false, PV.bool false])) (.pcells (ct d)) k5 ((by intro h; cases h))
      have k1 := keep2 (.pcells ([PV.str ⟨#[]⟩, PV.int IntKind.i64 0, PV.int IntKind.i64 0, PV.int IntKind.i64 0, PV.int IntKind.i64 0, PV.int IntKind.i64 0, PV.int IntKind.i64 0, PV.bool false, PV.bool false, PV.bool false])) (.pcells (ct d)) k1 ((by intro h; cases h))
      have hK := hK.trans (Kp.box G (.pcells ([PV.str ⟨#[]⟩, PV.int IntKind.i64 0, PV.int IntKind.i64 0, PV.int IntKind.i64 0, PV.int IntKind.i64 0, PV.int IntKind.i64 0, PV.int IntKind.i64 0, PV.bool false, PV.bool false, PV.bool false])) (.pcells (ct d)))
      generalize hset (G ++ [HObj.pcells ([PV.str ⟨#[]⟩, PV.int IntKind.i64 0, PV.int IntKind.i64 0, PV.int IntKind.i64 0, PV.int IntKind.i64 0, PV.int IntKind.i64 0, PV.int IntKind.i64 0, PV.bool false, PV.bool false, PV.bool false])]) G.length (.pcells (ct d)) = G at *
      refine hgetK_has _ k5 ?_
      refine getK_has rfl ?_
      refine hgetK_has _ k6 ?_
      refine getK_has rfl ?_
      refine boolK_has_eq (c := decide (c.name = d.name)) (str_beq _ _) ?_
      by_cases hn : c.name = d.name
      · rw [decide_eq_true hn]
        refine Has.intro (Has.intro (Has.intro (bad hK fun h => ?_)))
        have h1 := (h.2.2.2.2.1 i c hcg).1
        have h2 := findF_early p.l 0 m d hdg hn.symm
        have h3 : findI c.name p.l = findF c.name 0 p.l := rfl
        omega
      · rw [decide_eq_false hn]
        refine eqK_has_eq _ (i64_succ (by omega)) ?_
        refine Has.intro ⟨(m + 1, G), ⟨hlt2, hK, k1, k5, fun j e hj he => ?_⟩, (by dsimp only; omega), ⟨rfl, rfl, rfl, rfl, rfl, rfl, rfl, rfl, trivial⟩, rfl⟩
        dsimp only at hj
        by_cases ej : j = m
        · subst ej
          rw [hdg] at he; injection he with he; subst he
          exact fun e => hn e.symm
        · exact hB j e (by omega) he
    · refine Has.intro ?_
      refine eqK_has_eq _ (i64_succ (by omega)) ?_
      refine Has.intro ⟨(i + 1, G), ⟨hlt, hK, k1, fun j d hj hd => ?_⟩, (by dsimp only; omega), ⟨rfl, rfl, rfl, rfl, trivial⟩, rfl⟩
      dsimp only at hj
      by_cases e : j = i
      · subst e
        rw [hcg] at hd; injection hd with hd; subst hd
        refine ⟨?_, h9⟩
        have := findF_first p.l 0 j c hcg rfl (fun m d hm hd => hB m d (by omega) hd)
        rw [Nat.zero_add] at this
        exact this
      · exact hA j d (by omega) hd
  · have : i = p.l.length := by omega
    subst this
    refine Has.intro ?_
    refine hgetK_has _ k1 ?_
    refine callSK_has' ((rsums_ok _ p (by omega) G (.inr ⟨id, cap, rfl, hK.2 _ _ hid ((by intro h; cases h)) ((fun _ _ h => by cases h))⟩)).mono fun y hy => ?_)
    obtain ⟨v, H'⟩ := y
    obtain ⟨rfl, hK2⟩ := hy
    have hK := hK.trans hK2
    dsimp only at hK ⊢
    refine hgetK_has (.pcells ([PV.int IntKind.i64 0, PV.int IntKind.i64 0, PV.int IntKind.i64 0])) ((hget_app _ (by simp)).trans (hget_append_same H' _)) ?_
    refine needK_has rfl ?_
    refine eqK_has ?_
    refine hgetK_has (.pcells ([PV.int IntKind.i64 0, PV.int IntKind.i64 0, PV.int IntKind.i64 0])) ((hget_hset_ne _ _ (by simp)).trans (hget_append_same _ _)) ?_
    refine needK_has rfl ?_
    refine eqK_has ?_
    refine Has.intro ⟨?_, ((hK.trans ((Kp.app H' [HObj.pcells ([PV.int IntKind.i64 0, PV.int IntKind.i64 0, PV.int IntKind.i64 0])]).trans (Kp.app _ [HObj.pcells ([PV.int IntKind.i64 0, PV.int IntKind.i64 0, PV.int IntKind.i64 0])]))).set _ hK.1).set _ (by have := hK.1; simp; omega)⟩
    show AV.pv (PV.bool ((sumV (rqs p.l)).isSome && (sumV (lms p.l)).isSome)) = _
    congr 2
    rw [Bool.eq_iff_iff, Bool.and_eq_true, decide_eq_true_iff]
    exact ⟨fun h => ⟨h1, by omega, by omega, by omega, fun j c hj => hA j c (List.getElem?_eq_some_iff.1 hj).1 hj, h.1, h.2⟩, fun h => ⟨h.2.2.2.2.2.1, h.2.2.2.2.2.2⟩⟩
theorem rpod_ok (u : AV) (p : Pd) (hs : small p) (H : Heap) (hu : PA u H p) : Has (EE env (.fn 19) [u] H) (fun y => y.1 = .pv (.bool (decide (podP p))) ∧ Kp H y.2) := by
  rcases hu with ⟨x, rfl⟩ | ⟨id, cap, rfl, hid⟩
  · exact rpod_plain x p hs H
  · exact rpod_hs id cap p hs H hid
end Go.Proofs.Ytnnhkkocdgegfaa
