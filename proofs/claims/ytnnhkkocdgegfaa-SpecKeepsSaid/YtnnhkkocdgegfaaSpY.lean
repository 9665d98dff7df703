/-
  Resize: the document's.
-/
import Derived.Test.YtnnhkkocdgegfaaSpX
set_option linter.all false
set_option linter.unusedVariables false
set_option linter.unusedSimpArgs false
set_option linter.unusedSectionVars false
namespace Go.Proofs.Ytnnhkkocdgegfaa
open Go Go.VM

theorem flat7 {l : List Ch} {i : Nat} (h : i ≤ l.length) : ((flat chv l).drop (mulE 0 7)).take (mulE (((i : Nat) : Int).toNat - 0) 7) = flat chv (l.take i) := by
  rw [mulE_eq, mulE_eq, Int.toNat_natCast, Nat.zero_mul, Nat.sub_zero]
  rw [List.drop_zero]
  conv => lhs; rw [← List.take_append_drop i l, ← flat_app]
  have hl : (flat chv (l.take i)).length = i * 7 := by rw [flat_len chv_len, List.length_take]; congr 1; omega
  rw [List.take_append_of_le_length (by omega), List.take_of_length_le (by omega)]
theorem pos_ne {a : Int} (h : 0 ≤ a) : decide (a > 0) = !(a == 0) := by
  rw [Bool.eq_iff_iff]; simp; omega
theorem xor_not (a b : Bool) : (Bool.not a != Bool.not b) = (a != b) := by cases a <;> cases b <;> rfl
theorem given_t1 {a b : Vc} (h : 0 ≤ a.c) {e : Bool} (he : (decide (a.c > 0) != (b.c != 0)) = e) : givenB a b = (e || ((a.m == 0) != (b.m == 0))) := by
  rw [← he, pos_ne h]; unfold givenB
  congr 1
  exact (xor_not _ _).symm
theorem given_t2 {a b : Vc} (h : 0 ≤ a.c) (hm : 0 ≤ a.m) (he : (decide (a.c > 0) != (b.c != 0)) = false) {e : Bool} (h2 : (decide (a.m > 0) != (b.m != 0)) = e) : givenB a b = e := by
  rw [given_t1 h he, ← h2, pos_ne hm, Bool.false_or]
  exact (xor_not _ _).symm
set_option maxRecDepth 20000 in
set_option maxHeartbeats 8000000 in
theorem rresize_ok (x y : Ext) (p : Pd) (l : List Ch) (hs : small p) (hl : l.length ≤ maxLen) : Has (EP (EE env) 30 [.agg (pdc p x), .sl y l.length (flat chv l)]) (fun v => ∃ z, v = .tup [.agg (pdc (rzP p l).2 z), .int .i64 (rzP p l).1]) := by
  have hlm := hl
  rw [maxLen_eq] at hlm
  refine EP_has ?_
  refine hgetK_has (.pcells (pdc p x)) rfl ?_
  refine secK_has (v := pdc p x) rfl (of_decide_eq_true rfl) ?_
  refine callSK_has' ((rpod_ok _ p hs [HObj.pcells (pdc p x), HObj.pcells ([PV.str ⟨#[]⟩, PV.int IntKind.i64 0, PV.int IntKind.i64 0, PV.sl Ext.nil 0 []])] (.inl ⟨x, rfl⟩)).mono fun y hy => ?_)
  obtain ⟨v, G⟩ := y
  obtain ⟨rfl, hK⟩ := hy
  have k0 : hget G 0 = .pcells (pdc p x) := hK.2 _ _ rfl ((by intro h; cases h)) ((fun _ _ h => by cases h))
  have k1 : hget G 1 = .pcells ([PV.str ⟨#[]⟩, PV.int IntKind.i64 0, PV.int IntKind.i64 0, PV.sl Ext.nil 0 []]) := hK.2 _ _ rfl ((by intro h; cases h)) ((fun _ _ h => by cases h))
  dsimp only at k0 k1 ⊢
  clear hK
  by_cases hp : podP p
  rotate_left
  · rw [show decide (podP p) = false from decide_eq_false hp]
    (refine hgetK_has _ k1 ?_; refine needK_has rfl ?_; refine eqK_has_eq (pdc pz .nil) rfl ?_; refine hgetK_has _ (hget_hset_same _ (hget_lt k1 ((by intro h; cases h)))) ?_; refine secK_has (v := pdc pz .nil) rfl (of_decide_eq_true rfl) ?_)
    refine Has.intro (Has.intro ⟨.nil, ?_⟩)
    unfold rzP
    rw [if_neg (fun h => hp h.1)]
  rw [show decide (podP p) = true from decide_eq_true hp]
  refine boolK_beq (fun h0 => ?_) (fun h0 => ?_)
  · (refine hgetK_has _ k1 ?_; refine needK_has rfl ?_; refine eqK_has_eq (pdc pz .nil) rfl ?_; refine hgetK_has _ (hget_hset_same _ (hget_lt k1 ((by intro h; cases h)))) ?_; refine secK_has (v := pdc pz .nil) rfl (of_decide_eq_true rfl) ?_)
    refine Has.intro (Has.intro ⟨.nil, ?_⟩)
    unfold rzP
    rw [if_neg (fun h => h.2 (List.eq_nil_of_length_eq_zero (by omega)))]
  have hne : l ≠ [] := fun e => h0 (by rw [e]; rfl)
  have hP := hp
  obtain ⟨_, _, _, ⟨hl1, hl6⟩, hPA, _⟩ := hP
  have hrz : rzP p l = rzQ p (rzF p.l [] l p.l) := by unfold rzP; rw [if_pos ⟨hp, hne⟩]
  rw [hrz]
  refine hgetK_has _ k0 ?_
  refine secK_has (v := pdc p x) rfl (of_decide_eq_true rfl) ?_
  refine hgetK_last ?_
  refine needK_has rfl ?_
  refine eqK_has_eq (pdc p x) rfl ?_
  have k6 := hget_hset_same (H := G ++ [HObj.pcells ([PV.str ⟨#[]⟩, PV.int IntKind.i64 0, PV.int IntKind.i64 0, PV.sl Ext.nil 0 []])]) (id := G.length) (.pcells (pdc p x)) (by simp)
  have q1 := hget_lt k1 ((by intro h; cases h))
  have k0 := keep2 (.pcells ([PV.str ⟨#[]⟩, PV.int IntKind.i64 0, PV.int IntKind.i64 0, PV.sl Ext.nil 0 []])) (.pcells (pdc p x)) k0 ((by intro h; cases h))
  have k1 := keep2 (.pcells ([PV.str ⟨#[]⟩, PV.int IntKind.i64 0, PV.int IntKind.i64 0, PV.sl Ext.nil 0 []])) (.pcells (pdc p x)) k1 ((by intro h; cases h))
  have q6 : 1 < G.length := q1
  generalize hset (G ++ [HObj.pcells ([PV.str ⟨#[]⟩, PV.int IntKind.i64 0, PV.int IntKind.i64 0, PV.sl Ext.nil 0 []])]) G.length (.pcells (pdc p x)) = G1 at *
  generalize G.length = n6 at *
  refine hgetK_has _ k0 ?_
  refine getK_has rfl ?_
  refine app_plain rfl rfl (flat_len ct_len p.l) (by omega) (by show (0 + p.l.length) * 72 ≤ 140737488355328; omega) ?_
  rw [Nat.zero_add p.l.length, List.nil_append (flat ct p.l)]
  have k8 := hget_append_same G1 (HObj.pcells (flat ct p.l))
  have k0 := (hget_app [HObj.pcells (flat ct p.l)] (hget_lt k0 ((by intro h; cases h)))).trans k0
  have k1 := (hget_app [HObj.pcells (flat ct p.l)] (hget_lt k1 ((by intro h; cases h)))).trans k1
  have q8 := hget_lt k6 ((by intro h; cases h))
  have k6 := (hget_app [HObj.pcells (flat ct p.l)] (hget_lt k6 ((by intro h; cases h)))).trans k6
  generalize G1 ++ [HObj.pcells (flat ct p.l)] = G2 at *
  generalize hn8 : G1.length = n8 at *
  refine hgetK_has _ k6 ?_
  have k0 := (hget_hset_ne G2 (i := n6) (.cells (pdh p n8 p.l.length)) (by omega)).trans k0
  have k1 := (hget_hset_ne G2 (i := n6) (.cells (pdh p n8 p.l.length)) (by omega)).trans k1
  have k8 := (hget_hset_ne G2 (i := n6) (.cells (pdh p n8 p.l.length)) (by omega)).trans k8
  have k6 := hget_hset_same (.cells (pdh p n8 p.l.length)) (hget_lt k6 ((by intro h; cases h)))
  refine loopK_has ?_
  refine iterE_loop (σ := Nat × List Ct × Heap) (fun s => l.length - s.1) (fun s => [(1, .pv (.sl y l.length (flat chv l))), (2, .ptr 0 0), (4, .ptr 1 0), (6, .ptr n6 0), (28, .pv (.sl y l.length (flat chv l))), (29, .pv (.int .i64 l.length)), (30, .pv (.int .i64 s.1))]) (fun s => s.2.2)
    (fun s => s.1 ≤ l.length ∧ hget s.2.2 0 = .pcells (pdc p x) ∧ hget s.2.2 1 = .pcells ([PV.str ⟨#[]⟩, PV.int IntKind.i64 0, PV.int IntKind.i64 0, PV.sl Ext.nil 0 []]) ∧ hget s.2.2 n6 = .cells (pdh p n8 p.l.length) ∧ hget s.2.2 n8 = .pcells (flat ct s.2.1) ∧
      s.2.1.map Ct.name = p.l.map Ct.name ∧ rzF p.l [] l p.l = rzF p.l (l.take s.1) (l.drop s.1) s.2.1)
    (fun ⟨i, L, G⟩ ⟨hi, k0, k1, k6, k8, hN, hR⟩ r => ?_) (0, p.l, _) ⟨Nat.zero_le _, k0, k1, k6, k8, rfl, rfl⟩ ⟨rfl, rfl, rfl, rfl, rfl, rfl, rfl, trivial⟩ rfl
  dsimp only at hi k0 k1 k6 k8 hN hR ⊢
  have hLl := names_len hN
  refine boolK_dec (fun hc => ?_) (fun hc => ?_)
  · have hlt : i < l.length := by omega
    obtain ⟨c, hcg⟩ : ∃ c, l[i]? = some c := ⟨_, List.getElem?_eq_getElem hlt⟩
    obtain ⟨g1, g2⟩ := flat_get chv_len hcg
    have hst := rzF_step (l0 := p.l) (L := L) hcg
    rw [← hR] at hst
    refine needK_has (by (first | rfl | (simp; done) | (simp; omega))) ?_
    refine secK_has g1 g2 ?_
    refine hgetK_last ?_
    refine needK_has rfl ?_
    refine eqK_has_eq (chv c) rfl ?_
    have k9 := hget_hset_same (H := G ++ [HObj.pcells ([PV.str ⟨#[]⟩, PV.int IntKind.i64 0, PV.int IntKind.i64 0, PV.int IntKind.i64 0, PV.int IntKind.i64 0, PV.int IntKind.i64 0, PV.int IntKind.i64 0])]) (id := G.length) (.pcells (chv c)) (by simp)
    have q9 := hget_lt k8 ((by intro h; cases h))
    have q90 := hget_lt k6 ((by intro h; cases h))
    have k0 := keep2 (.pcells ([PV.str ⟨#[]⟩, PV.int IntKind.i64 0, PV.int IntKind.i64 0, PV.int IntKind.i64 0, PV.int IntKind.i64 0, PV.int IntKind.i64 0, PV.int IntKind.i64 0])) (.pcells (chv c)) k0 ((by intro h; cases h))
    have k1 := keep2 (.pcells ([PV.str ⟨#[]⟩, PV.int IntKind.i64 0, PV.int IntKind.i64 0, PV.int IntKind.i64 0, PV.int IntKind.i64 0, PV.int IntKind.i64 0, PV.int IntKind.i64 0])) (.pcells (chv c)) k1 ((by intro h; cases h))
    have k6 := keep2 (.pcells ([PV.str ⟨#[]⟩, PV.int IntKind.i64 0, PV.int IntKind.i64 0, PV.int IntKind.i64 0, PV.int IntKind.i64 0, PV.int IntKind.i64 0, PV.int IntKind.i64 0])) (.pcells (chv c)) k6 ((by intro h; cases h))
    have k8 := keep2 (.pcells ([PV.str ⟨#[]⟩, PV.int IntKind.i64 0, PV.int IntKind.i64 0, PV.int IntKind.i64 0, PV.int IntKind.i64 0, PV.int IntKind.i64 0, PV.int IntKind.i64 0])) (.pcells (chv c)) k8 ((by intro h; cases h))
    generalize hset (G ++ [HObj.pcells ([PV.str ⟨#[]⟩, PV.int IntKind.i64 0, PV.int IntKind.i64 0, PV.int IntKind.i64 0, PV.int IntKind.i64 0, PV.int IntKind.i64 0, PV.int IntKind.i64 0])]) G.length (.pcells (chv c)) = G3 at *
    generalize G.length = n9 at *
    refine hgetK_has _ k0 ?_
    refine secK_has (v := pdc p x) rfl (of_decide_eq_true rfl) ?_
    refine hgetK_has _ k9 ?_
    refine getK_has rfl ?_
    refine callPK_has (rfind_ok x p hs.2.1 c.name) ?_
    refine boolK_dec (fun hf => ?_) (fun hf => ?_)
    · rw [if_pos hf] at hst
      rw [hst]
      (refine hgetK_has _ k1 ?_; refine needK_has rfl ?_; refine eqK_has_eq (pdc pz .nil) rfl ?_; refine Has.intro ?_; refine hgetK_has _ (hget_hset_same _ (hget_lt k1 ((by intro h; cases h)))) ?_; refine secK_has (v := pdc pz .nil) rfl (of_decide_eq_true rfl) ?_)
      exact Has.intro (Has.intro ⟨.nil, rfl⟩)
    obtain ⟨k, d, h1, h2, h3⟩ := findI_ge (Int.not_lt.1 hf)
    have hk : k < p.l.length := (List.getElem?_eq_some_iff.1 h2).1
    rw [if_neg hf] at hst
    rw [h1]
    refine needK_has (by (first | rfl | (simp; done) | (simp; omega))) ?_
    refine eqK_has_eq (flat chv (l.take i)) (flat7 hi) ?_
    refine loopK_has ?_
    refine iterE_loop (σ := Nat × Heap) (fun s => i - s.1) (fun s => [(1, .pv (.sl y l.length (flat chv l))), (2, .ptr 0 0), (4, .ptr 1 0), (6, .ptr n6 0), (8, .ptr n9 0), (9, .pv (.int .i64 k)), (28, .pv (.sl y l.length (flat chv l))), (29, .pv (.int .i64 l.length)), (30, .pv (.int .i64 i)), (44, .pv (.sl (y.part false false) i (flat chv (l.take i)))), (45, .pv (.int .i64 i)), (46, .pv (.int .i64 s.1))]) (fun s => s.2)
      (fun s => s.1 ≤ i ∧ hget s.2 0 = .pcells (pdc p x) ∧ hget s.2 1 = .pcells ([PV.str ⟨#[]⟩, PV.int IntKind.i64 0, PV.int IntKind.i64 0, PV.sl Ext.nil 0 []]) ∧ hget s.2 n6 = .cells (pdh p n8 p.l.length) ∧ hget s.2 n8 = .pcells (flat ct L) ∧ hget s.2 n9 = .pcells (chv c) ∧ ∀ (j : Nat) (d : Ch), j < s.1 → l[j]? = some d → d.name ≠ c.name) (fun ⟨m, G⟩ ⟨hm, k0, k1, k6, k8, k9, hB⟩ r => ?_) (0, _) ⟨Nat.zero_le _, k0, k1, k6, k8, k9, fun j d h => by omega⟩ ⟨rfl, rfl, rfl, rfl, rfl, rfl, rfl, rfl, rfl, rfl, rfl, rfl, trivial⟩ rfl
    dsimp only at hm k0 k1 k6 k8 k9 hB ⊢
    refine boolK_dec (fun hc2 => ?_) (fun hc2 => ?_)
    · have hlt2 : m < i := by omega
      obtain ⟨f, hdg⟩ : ∃ f, l[m]? = some f := ⟨_, List.getElem?_eq_getElem (show m < l.length by omega)⟩
      have hdt : (l.take i)[m]? = some f := by rw [List.getElem?_take_of_lt hlt2]; exact hdg
      obtain ⟨f1, f2⟩ := flat_get chv_len hdt
      refine needK_has (by (first | rfl | (simp; done) | (simp; omega))) ?_
      refine secK_has f1 f2 ?_
      refine hgetK_last ?_
      refine needK_has rfl ?_
      refine eqK_has_eq (chv f) rfl ?_
      have k11 := hget_hset_same (H := G ++ [HObj.pcells ([PV.str ⟨#[]⟩, PV.int IntKind.i64 0, PV.int IntKind.i64 0, PV.int IntKind.i64 0, PV.int IntKind.i64 0, PV.int IntKind.i64 0, PV.int IntKind.i64 0])]) (id := G.length) (.pcells (chv f)) (by simp)
      have k0 := keep2 (.pcells ([PV.str ⟨#[]⟩, PV.int IntKind.i64 0, PV.int IntKind.i64 0, PV.int IntKind.i64 0, PV.int IntKind.i64 0, PV.int IntKind.i64 0, PV.int IntKind.i64 0])) (.pcells (chv f)) k0 ((by intro h; cases h))
      have k1 := keep2 (.pcells ([PV.str ⟨#[]⟩, PV.int IntKind.i64 0, PV.int IntKind.i64 0, PV.int IntKind.i64 0, PV.int IntKind.i64 0, PV.int IntKind.i64 0, PV.int IntKind.i64 0])) (.pcells (chv f)) k1 ((by intro h; cases h))
      have k6 := keep2 (.pcells ([PV.str ⟨#[]⟩, PV.int IntKind.i64 0, PV.int IntKind.i64 0, PV.int IntKind.i64 0, PV.int IntKind.i64 0, PV.int IntKind.i64 0, PV.int IntKind.i64 0])) (.pcells (chv f)) k6 ((by intro h; cases h))
      have k8 := keep2 (.pcells ([PV.str ⟨#[]⟩, PV.int IntKind.i64 0, PV.int IntKind.i64 0, PV.int IntKind.i64 0, PV.int IntKind.i64 0, PV.int IntKind.i64 0, PV.int IntKind.i64 0])) (.pcells (chv f)) k8 ((by intro h; cases h))
      have k9 := keep2 (.pcells ([PV.str ⟨#[]⟩, PV.int IntKind.i64 0, PV.int IntKind.i64 0, PV.int IntKind.i64 0, PV.int IntKind.i64 0, PV.int IntKind.i64 0, PV.int IntKind.i64 0])) (.pcells (chv f)) k9 ((by intro h; cases h))
      generalize hset (G ++ [HObj.pcells ([PV.str ⟨#[]⟩, PV.int IntKind.i64 0, PV.int IntKind.i64 0, PV.int IntKind.i64 0, PV.int IntKind.i64 0, PV.int IntKind.i64 0, PV.int IntKind.i64 0])]) G.length (.pcells (chv f)) = G4 at *
      refine hgetK_has _ k11 ?_
      refine getK_has rfl ?_
      refine hgetK_has _ k9 ?_
      refine getK_has rfl ?_
      refine boolK_has_eq (c := decide (f.name = c.name)) (str_beq _ _) ?_
      by_cases hn : f.name = c.name
      · rw [decide_eq_true hn]
        rw [if_pos (by rw [List.any_eq_true]; exact ⟨f, List.mem_of_getElem? hdt, decide_eq_true hn⟩)] at hst
        rw [hst]
        (refine hgetK_has _ k1 ?_; refine needK_has rfl ?_; refine eqK_has_eq (pdc pz .nil) rfl ?_; refine Has.intro ?_; refine Has.intro ?_; refine hgetK_has _ (hget_hset_same _ (hget_lt k1 ((by intro h; cases h)))) ?_; refine secK_has (v := pdc pz .nil) rfl (of_decide_eq_true rfl) ?_)
        exact Has.intro (Has.intro ⟨.nil, rfl⟩)
      · rw [decide_eq_false hn]
        refine eqK_has_eq _ (i64_succ (by omega)) ?_
        refine Has.intro ⟨(m + 1, G4), ⟨hlt2, k0, k1, k6, k8, k9, fun j e hj he => ?_⟩, (by dsimp only; omega), ⟨rfl, rfl, rfl, rfl, rfl, rfl, rfl, rfl, rfl, rfl, rfl, rfl, trivial⟩, rfl⟩
        dsimp only at hj
        by_cases ej : j = m
        · subst ej
          rw [hdg] at he; injection he with he; subst he
          exact hn
        · exact hB j e (by omega) he
    have : m = i := by omega
    subst this
    rw [if_neg (fun h => by
      obtain ⟨f, hf1, hf2⟩ := List.any_eq_true.1 h
      obtain ⟨j, hj, hj2⟩ := List.mem_take_iff_getElem.1 hf1
      exact hB j f (by omega) (by rw [← hj2]; exact List.getElem?_eq_getElem _) (of_decide_eq_true hf2))] at hst
    have hgv : gv p.l c = givenB d.lm c.lm := by unfold gv; rw [h1, Int.toNat_natCast, h2]
    rw [hgv] at hst
    obtain ⟨m1, m2⟩ := flat_get ct_len h2
    refine Has.intro ?_
    refine hgetK_has _ k0 ?_
    refine getK_has rfl ?_
    refine needK_has (by (first | rfl | (simp; done) | (simp; omega))) ?_
    refine secK_has (v := vc d.lm) (by rw [atR]; exact (flat_sec (j := 4) (n := 3) ct_len h2 (by decide)).1) (by rw [atR]; exact (flat_sec (j := 4) (n := 3) ct_len h2 (by decide)).2) ?_
    refine hgetK_last ?_
    refine needK_has rfl ?_
    refine eqK_has_eq (vc d.lm) rfl ?_
    have k12 := hget_hset_same (H := G ++ [HObj.pcells ([PV.int IntKind.i64 0, PV.int IntKind.i64 0, PV.int IntKind.i64 0])]) (id := G.length) (.pcells (vc d.lm)) (by simp)
    have k0 := keep2 (.pcells ([PV.int IntKind.i64 0, PV.int IntKind.i64 0, PV.int IntKind.i64 0])) (.pcells (vc d.lm)) k0 ((by intro h; cases h))
    have k1 := keep2 (.pcells ([PV.int IntKind.i64 0, PV.int IntKind.i64 0, PV.int IntKind.i64 0])) (.pcells (vc d.lm)) k1 ((by intro h; cases h))
    have k6 := keep2 (.pcells ([PV.int IntKind.i64 0, PV.int IntKind.i64 0, PV.int IntKind.i64 0])) (.pcells (vc d.lm)) k6 ((by intro h; cases h))
    have k8 := keep2 (.pcells ([PV.int IntKind.i64 0, PV.int IntKind.i64 0, PV.int IntKind.i64 0])) (.pcells (vc d.lm)) k8 ((by intro h; cases h))
    have k9 := keep2 (.pcells ([PV.int IntKind.i64 0, PV.int IntKind.i64 0, PV.int IntKind.i64 0])) (.pcells (vc d.lm)) k9 ((by intro h; cases h))
    generalize hset (G ++ [HObj.pcells ([PV.int IntKind.i64 0, PV.int IntKind.i64 0, PV.int IntKind.i64 0])]) G.length (.pcells (vc d.lm)) = G5 at *
    have hR1 := (hPA k d h2).2.2.2.1
    have hb := vR_in hR1
    refine hgetK_has _ k12 ?_
    refine getK_has rfl ?_
    refine boolK_has_keep ?_
    refine hgetK_has _ k9 ?_
    refine getK_has rfl ?_
    refine boolK_has_keep ?_
    cases he1 : (decide (d.lm.c > 0) != (c.lm.c != 0))
    rotate_left
    · refine boolK_has_eq (c := true) he1 ?_
      rw [given_t1 hb.1.1 he1, Bool.true_or, if_pos rfl] at hst
      rw [hst]
      (refine hgetK_has _ k1 ?_; refine needK_has rfl ?_; refine eqK_has_eq (pdc pz .nil) rfl ?_; refine Has.intro ?_; refine hgetK_has _ (hget_hset_same _ (hget_lt k1 ((by intro h; cases h)))) ?_; refine secK_has (v := pdc pz .nil) rfl (of_decide_eq_true rfl) ?_)
      exact Has.intro (Has.intro ⟨.nil, rfl⟩)
    refine boolK_has_eq (c := false) he1 ?_
    refine hgetK_has _ k12 ?_
    refine getK_has rfl ?_
    refine boolK_has_keep ?_
    refine hgetK_has _ k9 ?_
    refine getK_has rfl ?_
    refine boolK_has_keep ?_
    cases he2 : (decide (d.lm.m > 0) != (c.lm.m != 0))
    rotate_left
    · refine boolK_has_eq (c := true) he2 ?_
      rw [given_t2 hb.1.1 hb.2.1.1 he1 he2, if_pos rfl] at hst
      rw [hst]
      (refine hgetK_has _ k1 ?_; refine needK_has rfl ?_; refine eqK_has_eq (pdc pz .nil) rfl ?_; refine Has.intro ?_; refine hgetK_has _ (hget_hset_same _ (hget_lt k1 ((by intro h; cases h)))) ?_; refine secK_has (v := pdc pz .nil) rfl (of_decide_eq_true rfl) ?_)
      exact Has.intro (Has.intro ⟨.nil, rfl⟩)
    refine boolK_has_eq (c := false) he2 ?_
    rw [given_t2 hb.1.1 hb.2.1.1 he1 he2, if_neg (by decide), h1, Int.toNat_natCast] at hst
    obtain ⟨e, hLg⟩ : ∃ e, L[k]? = some e := ⟨_, List.getElem?_eq_getElem (by omega)⟩
    rw [putc_some hLg] at hst
    have hfl : (flat ct L).length = p.l.length * 10 := by rw [flat_len ct_len, hLl]
    have q8 := hget_lt k8 ((by intro h; cases h))
    refine hgetK_has _ k6 ?_
    refine hgetK_has _ k9 ?_
    refine secK_has (v := vc c.rq) rfl (of_decide_eq_true rfl) ?_
    refine needK_has (by simp; omega) ?_
    refine hgetK_has _ k8 ?_
    refine needK_has (by rw [at4, hfl]; exact Nat.ble_eq_true_of_le (by omega)) ?_
    refine eqK_has_eq (flat ct (L.set k ⟨e.name, c.rq, e.lm, e.r0, e.r1, e.r2⟩)) (by rw [at4]; exact flat_splice (es := 10) (n := 3) (j := 1) ct_len (by decide) rfl (by decide) hLg rfl) ?_
    generalize hL1 : L.set k ⟨e.name, c.rq, e.lm, e.r0, e.r1, e.r2⟩ = L1
    have hL1g : L1[k]? = some ⟨e.name, c.rq, e.lm, e.r0, e.r1, e.r2⟩ := by rw [← hL1]; exact List.getElem?_set_self (by omega)
    have hL1l : (flat ct L1).length = p.l.length * 10 := by rw [flat_len ct_len, ← hL1, List.length_set, hLl]
    have j8 := hget_hset_same (H := G5) (id := n8) (.pcells (flat ct L1)) q8
    have f1 (o : Nat) (ho : o ≠ n8) : hget (hset G5 n8 (.pcells (flat ct L1))) o = hget G5 o := hget_hset_ne _ _ ho
    refine hgetK_has _ ((f1 _ (by omega)).trans k6) ?_
    refine hgetK_has _ ((f1 _ (by omega)).trans k9) ?_
    refine secK_has (v := vc c.lm) rfl (of_decide_eq_true rfl) ?_
    refine needK_has (by simp; omega) ?_
    refine hgetK_has _ j8 ?_
    refine needK_has (by rw [at4, hL1l]; exact Nat.ble_eq_true_of_le (by omega)) ?_
    refine eqK_has_eq (flat ct (L.set k (giveC e c))) (by rw [at4]; exact (flat_splice (es := 10) (n := 3) (j := 4) (a' := giveC e c) ct_len (by decide) rfl (by decide) hL1g rfl).trans (by rw [← hL1, List.set_set])) ?_
    refine eqK_has_eq _ (i64_succ (by omega)) ?_
    have hn8 : n8 < (hset G5 n8 (.pcells (flat ct L1))).length := by rw [hset_len]; exact q8
    have f0 (o : Nat) (ho : o ≠ n8) : hget (hset (hset G5 n8 (.pcells (flat ct L1))) n8 (.pcells (flat ct (L.set k (giveC e c))))) o = hget G5 o := (hget_hset_ne _ _ ho).trans (hget_hset_ne _ _ ho)
    refine Has.intro ⟨(m + 1, L.set k (giveC e c), _), ⟨hlt, (f0 _ (by omega)).trans k0, (f0 _ (by omega)).trans k1, (f0 _ (by omega)).trans k6, hget_hset_same _ hn8, ?_, hst⟩, (by dsimp only; omega), ⟨rfl, rfl, rfl, rfl, rfl, rfl, rfl, trivial⟩, rfl⟩
    dsimp only
    rw [← putc_some hLg, putc_names]; exact hN
  · have : i = l.length := by omega
    subst this
    rw [rzF_end] at hR
    rw [hR]
    refine Has.intro ?_
    have hu : pdh p n8 p.l.length = pdh (wl p L) n8 p.l.length := by unfold pdh wl; rw [hLl]
    rw [hu] at k6
    have hPA : PA (.agg (pdh (wl p L) n8 p.l.length)) G (wl p L) := .inr ⟨n8, _, rfl, k8⟩
    have hsq := names_small hs hN
    refine hgetK_has _ k6 ?_
    refine callSK_has' ((rpod_ok _ (wl p L) hsq G hPA).mono fun y hy => ?_)
    obtain ⟨v, G6⟩ := y
    obtain ⟨rfl, hK⟩ := hy
    have k0 := hK.2 _ _ k0 ((by intro h; cases h)) ((fun _ _ h => by cases h))
    have k1 := hK.2 _ _ k1 ((by intro h; cases h)) ((fun _ _ h => by cases h))
    have k6 := hK.2 _ _ k6 ((by intro h; cases h)) ((fun _ _ h => by cases h))
    have k8 := hK.2 _ _ k8 ((by intro h; cases h)) ((fun _ _ h => by cases h))
    have hPA := hK.pa hPA
    dsimp only at k0 k1 k6 k8 hPA ⊢
    clear hK
    by_cases hq : podP (wl p L)
    rotate_left
    · rw [show decide (podP (wl p L)) = false from decide_eq_false hq]
      (refine hgetK_has _ k1 ?_; refine needK_has rfl ?_; refine eqK_has_eq (pdc pz .nil) rfl ?_; refine hgetK_has _ (hget_hset_same _ (hget_lt k1 ((by intro h; cases h)))) ?_; refine secK_has (v := pdc pz .nil) rfl (of_decide_eq_true rfl) ?_)
      refine Has.intro (Has.intro ⟨.nil, ?_⟩)
      unfold rzQ
      rw [if_neg (show ¬ (0 : Int) ≠ 0 by decide), if_pos hq]
    rw [show decide (podP (wl p L)) = true from decide_eq_true hq]
    refine hgetK_has _ k6 ?_
    refine callSK_has' ((rclass_ok _ (wl p L) hsq.2.1 G6 hPA).mono fun y hy => ?_)
    obtain ⟨v, G7⟩ := y
    obtain ⟨rfl, hK⟩ := hy
    have j0 := hK.2 _ _ k0 ((by intro h; cases h)) ((fun _ _ h => by cases h))
    have k1 := hK.2 _ _ k1 ((by intro h; cases h)) ((fun _ _ h => by cases h))
    have k6 := hK.2 _ _ k6 ((by intro h; cases h)) ((fun _ _ h => by cases h))
    have k8 := hK.2 _ _ k8 ((by intro h; cases h)) ((fun _ _ h => by cases h))
    dsimp only at j0 k1 k6 k8 ⊢
    refine hgetK_has _ j0 ?_
    refine secK_has (v := pdc p x) rfl (of_decide_eq_true rfl) ?_
    refine callSK_has' ((rclass_ok _ p hs.2.1 G7 (.inl ⟨x, rfl⟩)).mono fun y hy => ?_)
    obtain ⟨v, G8⟩ := y
    obtain ⟨rfl, hK8⟩ := hy
    have k1 := hK8.2 _ _ k1 ((by intro h; cases h)) ((fun _ _ h => by cases h))
    have k6 := hK8.2 _ _ k6 ((by intro h; cases h)) ((fun _ _ h => by cases h))
    have k8 := hK8.2 _ _ k8 ((by intro h; cases h)) ((fun _ _ h => by cases h))
    dsimp only at k1 k6 k8 ⊢
    refine boolK_bne (fun hcl => ?_) (fun hcl => ?_)
    all_goals
      refine sameK_has (by rw [k0, j0]) (by rw [k0]; rfl) ?_
    · (refine hgetK_has _ k1 ?_; refine needK_has rfl ?_; refine eqK_has_eq (pdc pz .nil) rfl ?_; refine hgetK_has _ (hget_hset_same _ (hget_lt k1 ((by intro h; cases h)))) ?_; refine secK_has (v := pdc pz .nil) rfl (of_decide_eq_true rfl) ?_)
      refine Has.intro (Has.intro ⟨.nil, ?_⟩)
      unfold rzQ
      rw [if_neg (show ¬ (0 : Int) ≠ 0 by decide), if_neg (fun h => h hq), if_pos (show classI L ≠ classI p.l from hcl)]
    · refine hgetK_has _ k6 ?_
      refine hgetK_has _ k1 ?_
      have k1' := hget_hset_same (.cells (pdh (wl p L) n8 p.l.length)) (hget_lt k1 ((by intro h; cases h)))
      have k8 := (hget_hset_ne G8 (i := 1) (.cells (pdh (wl p L) n8 p.l.length)) (by omega)).trans k8
      refine hgetK_has _ k1' ?_
      refine Has.intro (Has.of_eq (out_pd (p := wl p L) k8) ⟨.nn, ?_⟩)
      unfold rzQ
      rw [if_neg (show ¬ (0 : Int) ≠ 0 by decide), if_neg (fun h => h hq), if_neg (show ¬ classI L ≠ classI p.l from fun h => h hcl)]
end Go.Proofs.Ytnnhkkocdgegfaa
