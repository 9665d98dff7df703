/-
  What changed: the program's.
-/
import Derived.Test.YtnnhkkocdgegfaaSpR
set_option linter.all false
set_option linter.unusedVariables false
set_option linter.unusedSimpArgs false
set_option linter.unusedSectionVars false
namespace Go.Proofs.Ytnnhkkocdgegfaa
open Go Go.VM

theorem flat_set {α : Type} {f : α → List PV} {es : Nat} (hf : ∀ a, (f a).length = es) {v : PV} {j : Nat} (hj : j < es) : ∀ {l : List α} {i : Nat} {a a' : α}, l[i]? = some a → (f a).set j v = f a' → (flat f l).set (i * es + j) v = flat f (l.set i a') := by
  intro l
  induction l with
  | nil => intro i a a' h; cases h
  | cons b l ih =>
    intro i a a' h e
    have hc : ∀ (b : α) (l : List α), flat f (b :: l) = f b ++ flat f l := fun b l => by simp [flat]
    cases i with
    | zero =>
      injection h with h; subst h
      rw [List.set_cons_zero, hc, hc, Nat.zero_mul, Nat.zero_add, List.set_append_left _ _ (by rw [hf]; exact hj), e]
    | succ i =>
      rw [List.getElem?_cons_succ] at h
      rw [List.set_cons_succ, hc, hc, List.set_append_right _ _ (by rw [hf, Nat.succ_mul]; omega), hf, ← ih h e]
      congr 2
      rw [Nat.succ_mul]; omega
structure B3 where
  x : Bool
  y : Bool
  z : Bool
def b3 (q : B3) : List PV := [.bool q.x, .bool q.y, .bool q.z]
theorem b3_len (q : B3) : (b3 q).length = 3 := rfl
def chq (c d : Ct) : B3 := ⟨(c.rq.c != d.rq.c) || (c.lm.c != d.lm.c), (c.rq.m != d.rq.m) || (c.lm.m != d.lm.m), (c.rq.h != d.rq.h) || (c.lm.h != d.lm.h)⟩
def fff : B3 := ⟨false, false, false⟩
/-- What of a container isn't in a list as it is. -/
def chg (l : List Ct) (c : Ct) : B3 := if 0 ≤ findI c.name l then (match l[(findI c.name l).toNat]? with | some d => chq c d | none => fff) else fff
def part (r : Nat) (q : B3) : B3 := ⟨if 0 < r then q.x else false, if 1 < r then q.y else false, if 2 < r then q.z else false⟩
/-- The row of what changed, up to a place. -/
def rowTo (a b : List Ct) (i : Nat) : List B3 := (a.map (chg b)).take i ++ List.replicate (a.length - i) fff
theorem rowTo_len (a b : List Ct) {i : Nat} (h : i ≤ a.length) : (rowTo a b i).length = a.length := by simp [rowTo]; omega
theorem rowTo_get (a b : List Ct) {i : Nat} (h : i < a.length) : (rowTo a b i)[i]? = some fff := by
  unfold rowTo
  rw [List.getElem?_append_right (by simp; omega)]
  have e : i - (List.take i (a.map (chg b))).length = 0 := by simp; omega
  rw [e, List.getElem?_replicate, if_pos (by omega)]
theorem rowTo_step {a b : List Ct} {i : Nat} {c : Ct} (h : a[i]? = some c) : (rowTo a b i).set i (chg b c) = rowTo a b (i + 1) := by
  obtain ⟨hlt, _⟩ := List.getElem?_eq_some_iff.1 h
  unfold rowTo
  rw [map_take h, List.set_append_right _ _ (by simp; omega)]
  have e : i - (List.take i (a.map (chg b))).length = 0 := by simp; omega
  have e2 : a.length - i = (a.length - (i + 1)) + 1 := by omega
  rw [e, e2, List.replicate_succ, List.set_cons_zero, List.append_assoc]; rfl
theorem rowTo_zero (a b : List Ct) : flat b3 (rowTo a b 0) = zerosOf ([PV.bool false, PV.bool false, PV.bool false]) a.length := by
  unfold rowTo
  rw [List.take_zero, List.nil_append, Nat.sub_zero]
  induction a.length with
  | zero => rfl
  | succ n ih => rw [List.replicate_succ, zerosOf, ← ih]; rfl
theorem rowTo_all (a b : List Ct) : rowTo a b a.length = a.map (chg b) := by
  unfold rowTo
  rw [Nat.sub_self, List.replicate_zero, List.append_nil, List.take_of_length_le (by simp)]
theorem findF_ge (name : List UInt8) : ∀ (l : List Ct) (i : Nat), 0 ≤ findF name i l → ∃ (k : Nat) (d : Ct), findF name i l = ((i + k : Nat) : Int) ∧ l[k]? = some d ∧ d.name = name := by
  intro l
  induction l with
  | nil => intro i h; unfold findF at h; omega
  | cons c l ih =>
    intro i h
    unfold findF at h ⊢
    split at h
    · rename_i e
      exact ⟨0, c, by rw [if_pos e]; rfl, rfl, e⟩
    · rename_i e
      obtain ⟨k, d, h1, h2, h3⟩ := ih _ h
      exact ⟨k + 1, d, by rw [if_neg e, h1]; omega, h2, h3⟩
theorem findI_ge {name : List UInt8} {l : List Ct} (h : 0 ≤ findI name l) : ∃ (k : Nat) (d : Ct), findI name l = (k : Int) ∧ l[k]? = some d ∧ d.name = name := by
  obtain ⟨k, d, h1, h2, h3⟩ := findF_ge name l 0 h
  exact ⟨k, d, by unfold findI; rw [h1, Nat.zero_add], h2, h3⟩
theorem chg_some {l : List Ct} {c d : Ct} {k : Nat} (h1 : findI c.name l = (k : Int)) (h2 : l[k]? = some d) : chg l c = chq c d := by
  unfold chg; rw [if_pos (by omega), h1, Int.toNat_natCast, h2]
theorem chg_none {l : List Ct} {c : Ct} (h1 : ¬ 0 ≤ findI c.name l) : chg l c = fff := by unfold chg; rw [if_neg h1]
theorem set_same {α : Type} {l : List α} {i : Nat} {a : α} (h : l[i]? = some a) : l.set i a = l := by
  refine List.ext_getElem? fun j => ?_
  rw [List.getElem?_set]
  split
  · rename_i e
    subst e
    split
    · exact h.symm
    · rename_i hn
      rw [List.getElem?_eq_none (by omega)] at h; cases h
  · rfl
theorem at3 (i j : Nat) : addO (addO 0 (mulE ((i : Nat) : Int).toNat 3)) (mulE j 1) = i * 3 + j := by
  rw [addO_eq, addO_eq, mulE_eq, mulE_eq, Int.toNat_natCast]; omega
theorem part_put {l : List B3} {i : Nat} {a q : B3} (h : l[i]? = some a) {j : Nat} (hj : j < 3) {v : Bool} (e : (b3 (part j q)).set j (.bool v) = b3 (part (j + 1) q)) : (flat b3 (l.set i (part j q))).set (i * 3 + j) (.bool v) = flat b3 (l.set i (part (j + 1) q)) := by
  have hi : i < l.length := (List.getElem?_eq_some_iff.1 h).1
  rw [flat_set b3_len hj (List.getElem?_set_self hi) e, List.set_set]
set_option maxRecDepth 20000 in
set_option maxHeartbeats 4000000 in
theorem changed_ok (x y : Ext) (a b : Pd) (hl : a.l.length ≤ 1000) (hlb : b.l.length ≤ 1000) : EP (EE env) 25 [.agg (pdc a x), .agg (pdc b y)] = some (.sl .nn a.l.length (flat b3 (a.l.map (chg b.l)))) := by
  refine Has.eq (EP_has ?_)
  refine hgetK_has _ rfl ?_
  refine getK_has rfl ?_
  refine needK_has (by simp; omega) ?_
  refine eqK_has_eq _ (rowTo_zero a.l b.l).symm ?_
  refine hgetK_has _ rfl ?_
  refine getK_has rfl ?_
  refine loopK_has ?_
  refine iterE_loop (σ := Nat × Heap) (fun s => a.l.length - s.1) (fun s => [(3, .ptr 1 0), (5, .hs 3 2 0 a.l.length a.l.length), (19, .pv (.sl x a.l.length (flat ct a.l))), (20, .pv (.int .i64 a.l.length)), (21, .pv (.int .i64 s.1))]) (fun s => s.2)
    (fun s => s.1 ≤ a.l.length ∧ hget s.2 1 = .pcells (pdc b y) ∧ hget s.2 2 = .pcells (flat b3 (rowTo a.l b.l s.1))) (fun ⟨i, G⟩ ⟨hi, k1, k2⟩ r => ?_) (0, _) ⟨Nat.zero_le _, rfl, rfl⟩ ⟨rfl, rfl, rfl, rfl, rfl, trivial⟩ rfl
  dsimp only at hi k1 k2 ⊢
  refine boolK_dec (fun hc => ?_) (fun hc => ?_)
  · have hlt : i < a.l.length := by omega
    obtain ⟨c, hcg⟩ : ∃ c, a.l[i]? = some c := ⟨_, List.getElem?_eq_getElem hlt⟩
    obtain ⟨g1, g2⟩ := flat_get ct_len hcg
    refine needK_has (by (first | rfl | (simp; done) | (simp; omega))) ?_
    refine secK_has g1 g2 ?_
    refine hgetK_last ?_
    refine needK_has rfl ?_
    refine eqK_has_eq (ct c) rfl ?_
    have k7 := hget_hset_same (H := G ++ [HObj.pcells ([PV.str ⟨#[]⟩, PV.int IntKind.i64 0, PV.int IntKind.i64 0, PV.int IntKind.i64 0, PV.int IntKind.i64 0, PV.int IntKind.i64 0, PV.int IntKind.i64 0, PV.bool false, PV.bool false, PV.bool false])]) (id := G.length) (.pcells (ct c)) (by simp)
    have k1 := keep2 (.pcells ([PV.str ⟨#[]⟩, PV.int IntKind.i64 0, PV.int IntKind.i64 0, PV.int IntKind.i64 0, PV.int IntKind.i64 0, PV.int IntKind.i64 0, PV.int IntKind.i64 0, PV.bool false, PV.bool false, PV.bool false])) (.pcells (ct c)) k1 ((by intro h; cases h))
    have k2 := keep2 (.pcells ([PV.str ⟨#[]⟩, PV.int IntKind.i64 0, PV.int IntKind.i64 0, PV.int IntKind.i64 0, PV.int IntKind.i64 0, PV.int IntKind.i64 0, PV.int IntKind.i64 0, PV.bool false, PV.bool false, PV.bool false])) (.pcells (ct c)) k2 ((by intro h; cases h))
    have hn7 : G.length < (hset (G ++ [HObj.pcells ([PV.str ⟨#[]⟩, PV.int IntKind.i64 0, PV.int IntKind.i64 0, PV.int IntKind.i64 0, PV.int IntKind.i64 0, PV.int IntKind.i64 0, PV.int IntKind.i64 0, PV.bool false, PV.bool false, PV.bool false])]) G.length (.pcells (ct c))).length := hget_lt k7 ((by intro h; cases h))
    generalize hset (G ++ [HObj.pcells ([PV.str ⟨#[]⟩, PV.int IntKind.i64 0, PV.int IntKind.i64 0, PV.int IntKind.i64 0, PV.int IntKind.i64 0, PV.int IntKind.i64 0, PV.int IntKind.i64 0, PV.bool false, PV.bool false, PV.bool false])]) G.length (.pcells (ct c)) = G1 at *
    refine hgetK_has _ k1 ?_
    refine secK_has (v := pdc b y) rfl (of_decide_eq_true rfl) ?_
    refine hgetK_has _ k7 ?_
    refine getK_has rfl ?_
    refine callSK_has' ((find_ok _ b (by rw [maxLen_eq]; omega) c.name G1 (.inl ⟨y, rfl⟩)).mono fun y hy => ?_)
    obtain ⟨v, H'⟩ := y
    obtain ⟨rfl, J, rfl⟩ := hy
    have k7 := (hget_app J (hget_lt k7 ((by intro h; cases h)))).trans k7
    have k1 := (hget_app J (hget_lt k1 ((by intro h; cases h)))).trans k1
    have k2 := (hget_app J (hget_lt k2 ((by intro h; cases h)))).trans k2
    have hn7 : G.length < (G1 ++ J).length := by simp; omega
    generalize G1 ++ J = G2 at *
    by_cases hf : 0 ≤ findI c.name b.l
    · obtain ⟨k, d, h1, h2, h3⟩ := findI_ge hf
      have hch := chg_some h1 h2
      rw [h1]
      unfold foundB
      rw [if_neg (by omega), show decide ((k : Int) ≥ 0) = true from decide_eq_true (by omega)]
      obtain ⟨m1, m2⟩ := flat_get ct_len h2
      have hkl : k < b.l.length := (List.getElem?_eq_some_iff.1 h2).1
      refine hgetK_has _ k1 ?_
      refine getK_has rfl ?_
      refine needK_has (by (first | rfl | (simp; done) | (simp; omega))) ?_
      refine secK_has m1 m2 ?_
      refine hgetK_last ?_
      refine needK_has rfl ?_
      refine eqK_has_eq (ct d) rfl ?_
      have k10 := hget_hset_same (H := G2 ++ [HObj.pcells ([PV.str ⟨#[]⟩, PV.int IntKind.i64 0, PV.int IntKind.i64 0, PV.int IntKind.i64 0, PV.int IntKind.i64 0, PV.int IntKind.i64 0, PV.int IntKind.i64 0, PV.bool false, PV.bool false, PV.bool false])]) (id := G2.length) (.pcells (ct d)) (by simp)
      have k1 := keep2 (.pcells ([PV.str ⟨#[]⟩, PV.int IntKind.i64 0, PV.int IntKind.i64 0, PV.int IntKind.i64 0, PV.int IntKind.i64 0, PV.int IntKind.i64 0, PV.int IntKind.i64 0, PV.bool false, PV.bool false, PV.bool false])) (.pcells (ct d)) k1 ((by intro h; cases h))
      have k2 := keep2 (.pcells ([PV.str ⟨#[]⟩, PV.int IntKind.i64 0, PV.int IntKind.i64 0, PV.int IntKind.i64 0, PV.int IntKind.i64 0, PV.int IntKind.i64 0, PV.int IntKind.i64 0, PV.bool false, PV.bool false, PV.bool false])) (.pcells (ct d)) k2 ((by intro h; cases h))
      have k7 := keep2 (.pcells ([PV.str ⟨#[]⟩, PV.int IntKind.i64 0, PV.int IntKind.i64 0, PV.int IntKind.i64 0, PV.int IntKind.i64 0, PV.int IntKind.i64 0, PV.int IntKind.i64 0, PV.bool false, PV.bool false, PV.bool false])) (.pcells (ct d)) k7 ((by intro h; cases h))
      generalize hset (G2 ++ [HObj.pcells ([PV.str ⟨#[]⟩, PV.int IntKind.i64 0, PV.int IntKind.i64 0, PV.int IntKind.i64 0, PV.int IntKind.i64 0, PV.int IntKind.i64 0, PV.int IntKind.i64 0, PV.bool false, PV.bool false, PV.bool false])]) G2.length (.pcells (ct d)) = G3 at *
      have q7 := hget_lt k7 ((by intro h; cases h))
      have q10 := hget_lt k10 ((by intro h; cases h))
      have q1 := hget_lt k1 ((by intro h; cases h))
      have q2 := hget_lt k2 ((by intro h; cases h))
      have hb (o : Nat) (ho : o < G3.length) : hget (G3 ++ [HObj.pcells ([PV.bool false, PV.bool false, PV.bool false])] ++ [HObj.pcells ([PV.bool false, PV.bool false, PV.bool false])]) o = hget G3 o := (hget_app _ (by simp; omega)).trans (hget_app _ ho)
      refine hgetK_has _ ((hb _ q7).trans k7) ?_
      refine secK_has (v := vc c.rq) rfl (of_decide_eq_true rfl) ?_
      refine hgetK_has _ ((hb _ q10).trans k10) ?_
      refine secK_has (v := vc d.rq) rfl (of_decide_eq_true rfl) ?_
      refine callPK_has (unlike_ok c.rq d.rq) ?_
      refine hgetK_has _ ((hb _ q7).trans k7) ?_
      refine secK_has (v := vc c.lm) rfl (of_decide_eq_true rfl) ?_
      refine hgetK_has _ ((hb _ q10).trans k10) ?_
      refine secK_has (v := vc d.lm) rfl (of_decide_eq_true rfl) ?_
      refine callPK_has (unlike_ok c.lm d.lm) ?_
      have e11 : hget (G3 ++ [HObj.pcells ([PV.bool false, PV.bool false, PV.bool false])] ++ [HObj.pcells ([PV.bool false, PV.bool false, PV.bool false])]) G3.length = .pcells ([PV.bool false, PV.bool false, PV.bool false]) := (hget_app _ (by simp)).trans (hget_append_same G3 _)
      have q11 := hget_lt e11 ((by intro h; cases h))
      refine hgetK_has _ e11 ?_
      refine needK_has rfl ?_
      refine eqK_has_eq (unlike c.rq d.rq) rfl ?_
      have e12 : hget (hset (G3 ++ [HObj.pcells ([PV.bool false, PV.bool false, PV.bool false])] ++ [HObj.pcells ([PV.bool false, PV.bool false, PV.bool false])]) G3.length (.pcells (unlike c.rq d.rq))) (G3 ++ [HObj.pcells ([PV.bool false, PV.bool false, PV.bool false])]).length = .pcells ([PV.bool false, PV.bool false, PV.bool false]) := (hget_hset_ne _ _ (by simp)).trans (hget_append_same _ _)
      refine hgetK_has _ e12 ?_
      refine needK_has rfl ?_
      refine eqK_has_eq (unlike c.lm d.lm) rfl ?_
      have k12 := hget_hset_same (H := hset (G3 ++ [HObj.pcells ([PV.bool false, PV.bool false, PV.bool false])] ++ [HObj.pcells ([PV.bool false, PV.bool false, PV.bool false])]) G3.length (.pcells (unlike c.rq d.rq))) (id := (G3 ++ [HObj.pcells ([PV.bool false, PV.bool false, PV.bool false])]).length) (.pcells (unlike c.lm d.lm)) (hget_lt e12 ((by intro h; cases h)))
      have k11 := (hget_hset_ne (hset (G3 ++ [HObj.pcells ([PV.bool false, PV.bool false, PV.bool false])] ++ [HObj.pcells ([PV.bool false, PV.bool false, PV.bool false])]) G3.length (.pcells (unlike c.rq d.rq))) (i := (G3 ++ [HObj.pcells ([PV.bool false, PV.bool false, PV.bool false])]).length) (j := G3.length) (.pcells (unlike c.lm d.lm)) (by simp)).trans (hget_hset_same _ q11)
      have hs (o : Nat) (ho : o < G3.length) : hget (hset (hset (G3 ++ [HObj.pcells ([PV.bool false, PV.bool false, PV.bool false])] ++ [HObj.pcells ([PV.bool false, PV.bool false, PV.bool false])]) G3.length (.pcells (unlike c.rq d.rq))) (G3 ++ [HObj.pcells ([PV.bool false, PV.bool false, PV.bool false])]).length (.pcells (unlike c.lm d.lm))) o = hget G3 o := (hget_hset_ne _ _ (by simp; omega)).trans ((hget_hset_ne _ _ (by omega)).trans (hb o ho))
      have k1 := (hs _ q1).trans k1
      have k2 := (hs _ q2).trans k2
      have e12' : G3.length < (G3 ++ [HObj.pcells ([PV.bool false, PV.bool false, PV.bool false])]).length := by simp
      generalize hset (hset (G3 ++ [HObj.pcells ([PV.bool false, PV.bool false, PV.bool false])] ++ [HObj.pcells ([PV.bool false, PV.bool false, PV.bool false])]) G3.length (.pcells (unlike c.rq d.rq))) (G3 ++ [HObj.pcells ([PV.bool false, PV.bool false, PV.bool false])]).length (.pcells (unlike c.lm d.lm)) = G4 at *
      generalize (G3 ++ [HObj.pcells ([PV.bool false, PV.bool false, PV.bool false])]).length = n12 at *
      generalize G3.length = n11 at *
      have k11 : hget G4 n11 = .pcells [.bool (c.rq.c != d.rq.c), .bool (c.rq.m != d.rq.m), .bool (c.rq.h != d.rq.h)] := k11
      have k12 : hget G4 n12 = .pcells [.bool (c.lm.c != d.lm.c), .bool (c.lm.m != d.lm.m), .bool (c.lm.h != d.lm.h)] := k12
      clear hs hb e11 e12 q11 q7 q10 k10 k7
      unfold chq at hch
      generalize (c.rq.c != d.rq.c) = u0 at *
      generalize (c.rq.m != d.rq.m) = u1 at *
      generalize (c.rq.h != d.rq.h) = u2 at *
      generalize (c.lm.c != d.lm.c) = w0 at *
      generalize (c.lm.m != d.lm.m) = w1 at *
      generalize (c.lm.h != d.lm.h) = w2 at *
      refine loopK_has ?_
      refine iterE_loop (σ := Nat × Heap) (fun s => 3 - s.1) (fun s => [(3, .ptr 1 0), (5, .hs 3 2 0 a.l.length a.l.length), (6, .pv (.int .i64 i)), (11, .ptr n11 0), (12, .ptr n12 0), (19, .pv (.sl x a.l.length (flat ct a.l))), (20, .pv (.int .i64 a.l.length)), (21, .pv (.int .i64 i)), (49, .pv (.int .i64 s.1))]) (fun s => s.2)
        (fun s => s.1 ≤ 3 ∧ hget s.2 1 = .pcells (pdc b y) ∧ hget s.2 2 = .pcells (flat b3 ((rowTo a.l b.l i).set i (part s.1 ⟨u0 || w0, u1 || w1, u2 || w2⟩))) ∧ hget s.2 n11 = .pcells [.bool u0, .bool u1, .bool u2] ∧ hget s.2 n12 = .pcells [.bool w0, .bool w1, .bool w2] ∧ 2 < n11 ∧ 2 < n12) (fun ⟨j, G⟩ ⟨hj, k1, k2, k11, k12, q11, q12⟩ r => ?_) (0, G4) ⟨Nat.zero_le _, k1, ?_, k11, k12, q2, by omega⟩ ⟨rfl, rfl, rfl, rfl, rfl, rfl, rfl, rfl, rfl, trivial⟩ rfl
      rotate_left
      · dsimp only
        rw [k2, set_same]
        exact rowTo_get a.l b.l hlt
      dsimp only at hj k1 k2 k11 k12 q11 q12 ⊢
      refine boolK_dec (fun hcj => ?_) (fun hcj => ?_)
      · have h3 : j = 0 ∨ j = 1 ∨ j = 2 := by omega
        have q1 := hget_lt k1 ((by intro h; cases h))
        have pl := rowTo_len a.l b.l (Nat.le_of_lt hlt)
        have pg := rowTo_get a.l b.l hlt
        have pn : i * 3 + 3 ≤ (flat b3 ((rowTo a.l b.l i).set i (part j ⟨u0 || w0, u1 || w1, u2 || w2⟩))).length := by rw [flat_len b3_len, List.length_set, pl]; omega
        rcases h3 with rfl | rfl | rfl
        · refine needK_has rfl ?_
          refine hgetK_has _ k11 ?_
          refine getK_has (v := .bool u0) rfl ?_
          cases u0
          · refine needK_has rfl ?_
            refine hgetK_has _ k12 ?_
            refine getK_has (v := .bool w0) rfl ?_
            refine needK_has (by (first | rfl | (simp; done) | (simp; omega))) ?_
            refine needK_has rfl ?_
            refine hgetK_has _ k2 ?_
            refine needK_has (by rw [at3]; exact Nat.ble_eq_true_of_le (by omega)) ?_
            refine eqK_has_eq (flat b3 ((rowTo a.l b.l i).set i (part 1 ⟨false || w0, u1 || w1, u2 || w2⟩))) (by rw [at3]; exact part_put pg (by decide) rfl) ?_
            refine eqK_has_eq _ (i64_succ (by omega)) ?_
            exact Has.intro ⟨(1, _), ⟨(show 1 ≤ 3 by decide), (hget_hset_ne _ _ (by decide)).trans k1, hget_hset_same _ (hget_lt k2 ((by intro h; cases h))), (hget_hset_ne _ _ (by omega)).trans k11, (hget_hset_ne _ _ (by omega)).trans k12, q11, q12⟩, (by dsimp only; omega), ⟨rfl, rfl, rfl, rfl, rfl, rfl, rfl, rfl, rfl, trivial⟩, rfl⟩
          · refine needK_has (by (first | rfl | (simp; done) | (simp; omega))) ?_
            refine needK_has rfl ?_
            refine hgetK_has _ k2 ?_
            refine needK_has (by rw [at3]; exact Nat.ble_eq_true_of_le (by omega)) ?_
            refine eqK_has_eq (flat b3 ((rowTo a.l b.l i).set i (part 1 ⟨true || w0, u1 || w1, u2 || w2⟩))) (by rw [at3]; exact part_put pg (by decide) rfl) ?_
            refine eqK_has_eq _ (i64_succ (by omega)) ?_
            exact Has.intro ⟨(1, _), ⟨(show 1 ≤ 3 by decide), (hget_hset_ne _ _ (by decide)).trans k1, hget_hset_same _ (hget_lt k2 ((by intro h; cases h))), (hget_hset_ne _ _ (by omega)).trans k11, (hget_hset_ne _ _ (by omega)).trans k12, q11, q12⟩, (by dsimp only; omega), ⟨rfl, rfl, rfl, rfl, rfl, rfl, rfl, rfl, rfl, trivial⟩, rfl⟩
        · refine needK_has rfl ?_
          refine hgetK_has _ k11 ?_
          refine getK_has (v := .bool u1) rfl ?_
          cases u1
          · refine needK_has rfl ?_
            refine hgetK_has _ k12 ?_
            refine getK_has (v := .bool w1) rfl ?_
            refine needK_has (by (first | rfl | (simp; done) | (simp; omega))) ?_
            refine needK_has rfl ?_
            refine hgetK_has _ k2 ?_
            refine needK_has (by rw [at3]; exact Nat.ble_eq_true_of_le (by omega)) ?_
            refine eqK_has_eq (flat b3 ((rowTo a.l b.l i).set i (part 2 ⟨u0 || w0, false || w1, u2 || w2⟩))) (by rw [at3]; exact part_put pg (by decide) rfl) ?_
            refine eqK_has_eq _ (i64_succ (by omega)) ?_
            exact Has.intro ⟨(2, _), ⟨(show 2 ≤ 3 by decide), (hget_hset_ne _ _ (by decide)).trans k1, hget_hset_same _ (hget_lt k2 ((by intro h; cases h))), (hget_hset_ne _ _ (by omega)).trans k11, (hget_hset_ne _ _ (by omega)).trans k12, q11, q12⟩, (by dsimp only; omega), ⟨rfl, rfl, rfl, rfl, rfl, rfl, rfl, rfl, rfl, trivial⟩, rfl⟩
          · refine needK_has (by (first | rfl | (simp; done) | (simp; omega))) ?_
            refine needK_has rfl ?_
            refine hgetK_has _ k2 ?_
            refine needK_has (by rw [at3]; exact Nat.ble_eq_true_of_le (by omega)) ?_
            refine eqK_has_eq (flat b3 ((rowTo a.l b.l i).set i (part 2 ⟨u0 || w0, true || w1, u2 || w2⟩))) (by rw [at3]; exact part_put pg (by decide) rfl) ?_
            refine eqK_has_eq _ (i64_succ (by omega)) ?_
            exact Has.intro ⟨(2, _), ⟨(show 2 ≤ 3 by decide), (hget_hset_ne _ _ (by decide)).trans k1, hget_hset_same _ (hget_lt k2 ((by intro h; cases h))), (hget_hset_ne _ _ (by omega)).trans k11, (hget_hset_ne _ _ (by omega)).trans k12, q11, q12⟩, (by dsimp only; omega), ⟨rfl, rfl, rfl, rfl, rfl, rfl, rfl, rfl, rfl, trivial⟩, rfl⟩
        · refine needK_has rfl ?_
          refine hgetK_has _ k11 ?_
          refine getK_has (v := .bool u2) rfl ?_
          cases u2
          · refine needK_has rfl ?_
            refine hgetK_has _ k12 ?_
            refine getK_has (v := .bool w2) rfl ?_
            refine needK_has (by (first | rfl | (simp; done) | (simp; omega))) ?_
            refine needK_has rfl ?_
            refine hgetK_has _ k2 ?_
            refine needK_has (by rw [at3]; exact Nat.ble_eq_true_of_le (by omega)) ?_
            refine eqK_has_eq (flat b3 ((rowTo a.l b.l i).set i (part 3 ⟨u0 || w0, u1 || w1, false || w2⟩))) (by rw [at3]; exact part_put pg (by decide) rfl) ?_
            refine eqK_has_eq _ (i64_succ (by omega)) ?_
            exact Has.intro ⟨(3, _), ⟨(show 3 ≤ 3 by decide), (hget_hset_ne _ _ (by decide)).trans k1, hget_hset_same _ (hget_lt k2 ((by intro h; cases h))), (hget_hset_ne _ _ (by omega)).trans k11, (hget_hset_ne _ _ (by omega)).trans k12, q11, q12⟩, (by dsimp only; omega), ⟨rfl, rfl, rfl, rfl, rfl, rfl, rfl, rfl, rfl, trivial⟩, rfl⟩
          · refine needK_has (by (first | rfl | (simp; done) | (simp; omega))) ?_
            refine needK_has rfl ?_
            refine hgetK_has _ k2 ?_
            refine needK_has (by rw [at3]; exact Nat.ble_eq_true_of_le (by omega)) ?_
            refine eqK_has_eq (flat b3 ((rowTo a.l b.l i).set i (part 3 ⟨u0 || w0, u1 || w1, true || w2⟩))) (by rw [at3]; exact part_put pg (by decide) rfl) ?_
            refine eqK_has_eq _ (i64_succ (by omega)) ?_
            exact Has.intro ⟨(3, _), ⟨(show 3 ≤ 3 by decide), (hget_hset_ne _ _ (by decide)).trans k1, hget_hset_same _ (hget_lt k2 ((by intro h; cases h))), (hget_hset_ne _ _ (by omega)).trans k11, (hget_hset_ne _ _ (by omega)).trans k12, q11, q12⟩, (by dsimp only; omega), ⟨rfl, rfl, rfl, rfl, rfl, rfl, rfl, rfl, rfl, trivial⟩, rfl⟩
      · have : j = 3 := by omega
        subst this
        refine Has.intro ?_
        refine eqK_has_eq _ (i64_succ (by omega)) ?_
        refine Has.intro ⟨(i + 1, G), ⟨hlt, k1, ?_⟩, (by dsimp only; omega), ⟨rfl, rfl, rfl, rfl, rfl, trivial⟩, rfl⟩
        dsimp only
        rw [← rowTo_step hcg, hch]
        exact k2
    · unfold foundB
      rw [show decide (findI c.name b.l ≥ 0) = false from decide_eq_false (by omega)]
      refine eqK_has_eq _ (i64_succ (by omega)) ?_
      refine Has.intro ⟨(i + 1, G2), ⟨hlt, k1, ?_⟩, (by dsimp only; omega), ⟨rfl, rfl, rfl, rfl, rfl, trivial⟩, rfl⟩
      dsimp only
      rw [← rowTo_step hcg, chg_none hf, set_same (rowTo_get a.l b.l hlt)]
      exact k2
  · have : i = a.l.length := by omega
    subst this
    rw [rowTo_all] at k2
    have hfl : (flat b3 (a.l.map (chg b.l))).length = a.l.length * 3 := by rw [flat_len b3_len, List.length_map]
    refine Has.intro (Has.intro (Has.of_eq (x := PV.sl .nn a.l.length (flat b3 (a.l.map (chg b.l)))) ?_ rfl))
    show (match hget G 2 with | .pcells cs => bif Nat.ble (0 + a.l.length * 3) cs.length then some (PV.sl .nn a.l.length ((cs.drop 0).take (a.l.length * 3))) else none | _ => none) = _
    rw [k2]
    dsimp only
    rw [hfl, Nat.zero_add, Nat.ble_self_eq_true, List.drop_zero, List.take_of_length_le (by omega)]; rfl
end Go.Proofs.Ytnnhkkocdgegfaa
