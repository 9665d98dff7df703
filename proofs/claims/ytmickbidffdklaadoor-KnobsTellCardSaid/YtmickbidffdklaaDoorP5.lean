/-
  Part 5 of the functions and the law.
  Knobs of containers and pods: the program's.
  Knobs of pods: the program's.
  What must be answered ahead of everything else.
  The laws that weights rise and that files do not touch one another.
  What the rows' condition gives: the variables' cells; a world in which they lie.
  The law that a right pod's knobs are right, and that no container's are above them.
  The law that a right pod's knobs are right: through the code.
  Knobs of pods: the document's.
  The law that the knobs are the document's.
  The document's numbers of twenty digits: sums, differences, which is less, powers of two.
  The document's numbers of twenty digits: of a word, back again, powers of two, products, quotients.
-/
import Derived.Test.YtmickbidffdklaaDoorP4
import Derived.Test.YtmickbidffdklaaDoorP3
import Derived.Test.YtmickbidffdklaaDoorRows
import Derived.Test.YtmickbidffdklaaDoorCards
import Derived.Test.YtmickbidffdklaaDoorTie
import Derived.LaidHandle
import Derived.Lib.LaidTab
import Derived.Test.YtmickbidffdklaaDoorV9
set_option linter.all false
set_option linter.unusedVariables false
set_option linter.unusedSimpArgs false
set_option linter.unusedSectionVars false
namespace Go.Proofs.YtmickbidffdklaaDoor
open Go Go.VM

def knC (c : Ct) : Kn := if cP c then ⟨limI c.lm.c, wI c.rq.c, c.rq.m, limI c.lm.m, c.lm.h⟩ else k0
theorem ctn_ok (c : Ct) (hl : c.name.length ≤ maxLen) : EP (EE env) 10 [.agg (ct c)] = some (.agg (kn (knC c))) := by
  refine Has.eq (EP_has ?_)
  refine hgetK_has (.pcells (ct c)) rfl ?_
  refine secK_has (v := ct c) rfl (of_decide_eq_true rfl) ?_
  refine callPK_dec (ctr_ok c hl) (fun h => ?_) (fun h => ?_)
  · have hR : in64 c.rq.c := by have := h.2.1.1; unfold in64; omega
    have e : knC c = ⟨limI c.lm.c, wI c.rq.c, c.rq.m, limI c.lm.m, c.lm.h⟩ := by unfold knC; rw [if_pos h]
    rw [e]
    repeat (first
      | refine hgetK_has _ rfl ?_
      | refine getK_has rfl ?_
      | refine needK_has rfl ?_
      | refine callPK_has (limit_ok _) ?_
      | refine callPK_has (weight_ok _ hR) ?_
      | refine eqK_has ?_)
    (repeat (first | refine hgetK_last ?_ | refine hgetK_set ?_ | refine hgetK_has _ rfl ?_ | refine needK_has rfl ?_ | refine getK_has rfl ?_ | refine secK_has rfl (by first | exact Nat.le_refl _ | decide) ?_ | refine eqK_has ?_))
    (refine Has.intro (Has.intro ?_))
    rfl
  · have e : knC c = k0 := by unfold knC; rw [if_neg h]
    rw [e]
    (repeat (first | refine hgetK_last ?_ | refine hgetK_set ?_ | refine hgetK_has _ rfl ?_ | refine needK_has rfl ?_ | refine getK_has rfl ?_ | refine secK_has rfl (by first | exact Nat.le_refl _ | decide) ?_ | refine eqK_has ?_))
    (refine Has.intro (Has.intro ?_))
    rfl
theorem rctn_ok (c : Ct) (hl : c.name.length ≤ maxLen) : EP (EE env) 11 [.agg (ct c)] = some (.agg (kn (knC c))) := by
  refine Has.eq (EP_has ?_)
  refine hgetK_has (.pcells (ct c)) rfl ?_
  refine secK_has (v := ct c) rfl (of_decide_eq_true rfl) ?_
  refine callPK_dec (rctr_ok c hl) (fun h => ?_) (fun h => ?_)
  · have hR : in64 c.rq.c := by have := h.2.1.1; unfold in64; omega
    have e : knC c = ⟨limI c.lm.c, wI c.rq.c, c.rq.m, limI c.lm.m, c.lm.h⟩ := by unfold knC; rw [if_pos h]
    rw [e]
    repeat (first
      | refine hgetK_has _ rfl ?_
      | refine getK_has rfl ?_
      | refine needK_has rfl ?_
      | refine callPK_has (rlimit_ok _) ?_
      | refine callPK_has (rweight_ok _ hR) ?_
      | refine eqK_has ?_)
    (repeat (first | refine hgetK_last ?_ | refine hgetK_set ?_ | refine hgetK_has _ rfl ?_ | refine needK_has rfl ?_ | refine getK_has rfl ?_ | refine secK_has rfl (by first | exact Nat.le_refl _ | decide) ?_ | refine eqK_has ?_))
    (refine Has.intro (Has.intro ?_))
    rfl
  · have e : knC c = k0 := by unfold knC; rw [if_neg h]
    rw [e]
    (repeat (first | refine hgetK_last ?_ | refine hgetK_set ?_ | refine hgetK_has _ rfl ?_ | refine needK_has rfl ?_ | refine getK_has rfl ?_ | refine secK_has rfl (by first | exact Nat.le_refl _ | decide) ?_ | refine eqK_has ?_))
    (refine Has.intro (Has.intro ?_))
    rfl
def accK (a : Kn) (c : Ct) : Kn := ⟨bothI a.cm (knC c).cm, a.cw, a.mi + (knC c).mi, bothI a.mx (knC c).mx, a.hg + (knC c).hg⟩
def foldK (l : List Ct) : Kn := l.foldl accK k0
theorem foldK_step {l : List Ct} {i : Nat} {c : Ct} (h : l[i]? = some c) : foldK (l.take (i + 1)) = accK (foldK (l.take i)) c := by
  unfold foldK
  rw [List.take_add_one, h, List.foldl_append]; rfl
noncomputable def knP (p : Pd) : Kn := if podP p then { foldK p.l with cw := wI ((sumV (rqs p.l)).getD v0).c } else k0
/-- Bounds of sums. -/
def bL (n : Nat) (a : Int) : Prop := 0 ≤ a ∧ (a ≤ n * (1125899906842624) ∨ a = (4611686018427387904))
def bK (n : Nat) (k : Kn) : Prop := bL n k.cm ∧ bL n k.mx ∧ (0 ≤ k.mi ∧ k.mi ≤ n * (1125899906842624)) ∧ (0 ≤ k.hg ∧ k.hg ≤ n * (1125899906842624)) ∧ k.cw = 0
theorem bL_add {n : Nat} {a b : Int} (h1 : bL n a) (h2 : bL 1 b) (hn : n ≤ 100) : (¬ (a = (4611686018427387904) ∨ b = (4611686018427387904)) → in64 (a + b)) ∧ bL (n + 1) (bothI a b) := by
  unfold bL bothI in64 at *
  constructor
  · omega
  · split <;> omega
theorem knC_b {c : Ct} (h : cP c) : bL 1 (knC c).cm ∧ bL 1 (knC c).mx ∧ (0 ≤ (knC c).mi ∧ (knC c).mi ≤ (1125899906842624)) ∧ (0 ≤ (knC c).hg ∧ (knC c).hg ≤ (1125899906842624)) ∧ 1 ≤ (knC c).cw ∧ (knC c).cw ≤ 10000 := by
  have e : knC c = ⟨limI c.lm.c, wI c.rq.c, c.rq.m, limI c.lm.m, c.lm.h⟩ := by unfold knC; rw [if_pos h]
  obtain ⟨_, h1, h2, _⟩ := h
  rw [e]
  dsimp only
  have hw := wI_range c.rq.c
  unfold vR at h1 h2
  unfold bL limI
  refine ⟨?_, ?_, by omega, by omega, hw.1, hw.2⟩
  · split <;> omega
  · split <;> omega
theorem accK_b {n : Nat} {a : Kn} {c : Ct} (h : bK n a) (hc : cP c) (hn : n ≤ 100) : bK (n + 1) (accK a c) ∧ (¬ (a.cm = (4611686018427387904) ∨ (knC c).cm = (4611686018427387904)) → in64 (a.cm + (knC c).cm)) ∧ (¬ (a.mx = (4611686018427387904) ∨ (knC c).mx = (4611686018427387904)) → in64 (a.mx + (knC c).mx)) ∧ in64 (a.mi + (knC c).mi) ∧ in64 (a.hg + (knC c).hg) := by
  obtain ⟨c1, c2, c3, c4, _, _⟩ := knC_b hc
  obtain ⟨h1, h2, h3, h4, h5⟩ := h
  obtain ⟨p1, p2⟩ := bL_add h1 c1 hn
  obtain ⟨q1, q2⟩ := bL_add h2 c2 hn
  refine ⟨⟨p2, q2, ?_, ?_, h5⟩, p1, q1, ?_, ?_⟩
  · show 0 ≤ a.mi + (knC c).mi ∧ a.mi + (knC c).mi ≤ (n + 1 : Nat) * (1125899906842624); omega
  · show 0 ≤ a.hg + (knC c).hg ∧ a.hg + (knC c).hg ≤ (n + 1 : Nat) * (1125899906842624); omega
  · unfold in64; omega
  · unfold in64; omega
theorem podP_c {p : Pd} (h : podP p) {i : Nat} {c : Ct} (hc : p.l[i]? = some c) : cP c := (h.2.2.2.2.1 i c hc).2
theorem foldK_b {p : Pd} (h : podP p) : ∀ i, i ≤ p.l.length → i ≤ 100 → bK i (foldK (p.l.take i)) := by
  intro i
  induction i with
  | zero => intro _ _; show bK 0 k0; exact ⟨⟨by decide, .inl (by decide)⟩, ⟨by decide, .inl (by decide)⟩, ⟨by decide, by decide⟩, ⟨by decide, by decide⟩, rfl⟩
  | succ i ih =>
    intro hi hn
    have hg : p.l[i]? = some p.l[i] := List.getElem?_eq_getElem (by omega)
    rw [foldK_step hg]
    exact (accK_b (ih (by omega) (by omega)) (podP_c h hg) (by omega)).1
theorem addV_R {a b s : Vc} (h : addV a b = some s) : vR s := by
  unfold addV at h; split at h
  · rename_i hh; injection h with h; subst h; exact hh.2.2
  · cases h
theorem sumF_R : ∀ (l : List Vc) (acc s : Vc), vR acc → sumF acc l = some s → vR s
  | [], _, _, ha, h => by cases h; exact ha
  | v :: l, acc, s, ha, h => by
    unfold sumF at h
    cases hv : addV acc v with
    | none => rw [hv] at h; cases h
    | some t => rw [hv] at h; exact sumF_R l t s (addV_R hv) h
theorem v0_R : vR v0 := by decide
theorem sumV_R (l : List Vc) : vR ((sumV l).getD v0) := by
  cases h : sumV l with
  | none => exact v0_R
  | some s => exact sumF_R l v0 s v0_R h
end Go.Proofs.YtmickbidffdklaaDoor

namespace Go.Proofs.YtmickbidffdklaaDoor
open Go Go.VM

theorem hk_set {G : Heap} {i j : Nat} {o o' : HObj} (h : hget G i = o) (hj : i ≠ j) : hget (hset G j o') i = o := by rw [hget_hset_ne G o' hj]; exact h
set_option maxRecDepth 20000 in
set_option maxHeartbeats 4000000 in
theorem kpod_ok (x : Ext) (p : Pd) (hs : small p) : EP (EE env) 12 [.agg (pdc p x)] = some (.agg (kn (knP p))) := by
  refine Has.eq (EP_has (fn_has rfl ?_))
  refine seq_on [(1, .ptr 0 0), (2, .ptr 1 0)] [.pcells (pdc p x), .pcells ([PV.int IntKind.i64 0, PV.int IntKind.i64 0, PV.int IntKind.i64 0, PV.int IntKind.i64 0, PV.int IntKind.i64 0])] (by (repeat (first | refine hgetK_last ?_ | refine hgetK_set ?_ | refine hgetK_has _ rfl ?_ | refine needK_has rfl ?_ | refine getK_has rfl ?_ | refine secK_has rfl (by first | exact Nat.le_refl _ | decide) ?_ | refine eqK_has ?_)); (refine Has.intro ⟨rfl, ?_, rfl⟩; (repeat (first | exact trivial | refine ⟨rfl, ?_⟩)))) (fun r => ?_)
  by_cases hP : podP p
  rotate_left
  · refine hgetK_has (.pcells (pdc p x)) rfl ?_
    refine secK_has (v := pdc p x) rfl (of_decide_eq_true rfl) ?_
    refine callSK_has' ((pod_ok _ p hs [HObj.pcells (pdc p x), HObj.pcells ([PV.int IntKind.i64 0, PV.int IntKind.i64 0, PV.int IntKind.i64 0, PV.int IntKind.i64 0, PV.int IntKind.i64 0])] (.inl ⟨x, rfl⟩)).mono fun y hy => ?_)
    obtain ⟨v, G⟩ := y
    obtain ⟨rfl, hK⟩ := hy
    have k1 : hget G 1 = .pcells ([PV.int IntKind.i64 0, PV.int IntKind.i64 0, PV.int IntKind.i64 0, PV.int IntKind.i64 0, PV.int IntKind.i64 0]) := hK.2 _ _ rfl ((by intro h; cases h)) ((fun _ _ h => by cases h))
    have q1 := hget_lt k1 ((by intro h; cases h))
    dsimp only at k1 ⊢
    rw [show decide (podP p) = false from decide_eq_false hP]
    refine hgetK_has _ k1 ?_
    refine needK_has rfl ?_
    refine eqK_has_eq ([PV.int IntKind.i64 0, PV.int IntKind.i64 0, PV.int IntKind.i64 0, PV.int IntKind.i64 0, PV.int IntKind.i64 0]) rfl ?_
    refine hgetK_has _ (hget_hset_same _ q1) ?_
    refine secK_has rfl (of_decide_eq_true rfl) ?_
    refine Has.intro (Has.intro ?_)
    have e : knP p = k0 := by unfold knP; rw [if_neg hP]
    rw [e]; rfl
  have hl6 : p.l.length ≤ 6 := hP.2.2.2.1.2
  refine seq_st (σ := Heap) (fun _ => [(1, .ptr 0 0), (2, .ptr 1 0)]) (fun s => s) (fun s => hget s 0 = .pcells (pdc p x) ∧ hget s 1 = .pcells ([PV.int IntKind.i64 0, PV.int IntKind.i64 0, PV.int IntKind.i64 0, PV.int IntKind.i64 0, PV.int IntKind.i64 0])) ?_ (fun G ⟨k0, k1⟩ r => ?_)
  · refine hgetK_has (.pcells (pdc p x)) rfl ?_
    refine secK_has (v := pdc p x) rfl (of_decide_eq_true rfl) ?_
    refine callSK_has' ((pod_ok _ p hs [HObj.pcells (pdc p x), HObj.pcells ([PV.int IntKind.i64 0, PV.int IntKind.i64 0, PV.int IntKind.i64 0, PV.int IntKind.i64 0, PV.int IntKind.i64 0])] (.inl ⟨x, rfl⟩)).mono fun y hy => ?_)
    obtain ⟨v, G⟩ := y
    obtain ⟨rfl, hK⟩ := hy
    have k0 : hget G 0 = .pcells (pdc p x) := hK.2 _ _ rfl ((by intro h; cases h)) ((fun _ _ h => by cases h))
    have k1 : hget G 1 = .pcells ([PV.int IntKind.i64 0, PV.int IntKind.i64 0, PV.int IntKind.i64 0, PV.int IntKind.i64 0, PV.int IntKind.i64 0]) := hK.2 _ _ rfl ((by intro h; cases h)) ((fun _ _ h => by cases h))
    dsimp only at k0 k1 ⊢
    rw [show decide (podP p) = true from decide_eq_true hP]
    exact Has.intro ⟨rfl, G, ⟨k0, k1⟩, ⟨rfl, rfl, trivial⟩, rfl⟩
  refine seq_on [(1, .ptr 0 0), (2, .ptr 1 0), (3, .ptr G.length 0)] (G ++ [.pcells ([PV.int IntKind.i64 0, PV.int IntKind.i64 0, PV.int IntKind.i64 0, PV.int IntKind.i64 0, PV.int IntKind.i64 0])]) (by (refine Has.intro ⟨rfl, ?_, rfl⟩; (repeat (first | exact trivial | refine ⟨rfl, ?_⟩)))) (fun r => ?_)
  have q0 := hget_lt k0 ((by intro h; cases h))
  have q1 := hget_lt k1 ((by intro h; cases h))
  have k3 := hget_append_same G (HObj.pcells ([PV.int IntKind.i64 0, PV.int IntKind.i64 0, PV.int IntKind.i64 0, PV.int IntKind.i64 0, PV.int IntKind.i64 0]))
  have k0 := (hget_app [HObj.pcells ([PV.int IntKind.i64 0, PV.int IntKind.i64 0, PV.int IntKind.i64 0, PV.int IntKind.i64 0, PV.int IntKind.i64 0])] q0).trans k0
  have k1 := (hget_app [HObj.pcells ([PV.int IntKind.i64 0, PV.int IntKind.i64 0, PV.int IntKind.i64 0, PV.int IntKind.i64 0, PV.int IntKind.i64 0])] q1).trans k1
  have h30 : 0 ≠ G.length := by omega
  have h31 : 1 ≠ G.length := by omega
  generalize G ++ [HObj.pcells ([PV.int IntKind.i64 0, PV.int IntKind.i64 0, PV.int IntKind.i64 0, PV.int IntKind.i64 0, PV.int IntKind.i64 0])] = GN at *
  generalize G.length = n3 at *
  clear q0 q1
  refine seq_st (σ := Heap) (fun _ => [(1, .ptr 0 0), (2, .ptr 1 0), (3, .ptr n3 0)]) (fun s => s) (fun s => hget s 0 = .pcells (pdc p x) ∧ hget s 1 = .pcells ([PV.int IntKind.i64 0, PV.int IntKind.i64 0, PV.int IntKind.i64 0, PV.int IntKind.i64 0, PV.int IntKind.i64 0]) ∧ hget s n3 = .pcells (kn (foldK p.l))) ?_ (fun G ⟨k0, k1, k3⟩ r => ?_)
  · refine hgetK_has _ k0 ?_
    refine getK_has rfl ?_
    refine loopK_has ?_
    refine iterE_loop (σ := Nat × Heap) (fun s => p.l.length - s.1) (fun s => [(1, .ptr 0 0), (2, .ptr 1 0), (3, .ptr n3 0), (12, .pv (.sl x p.l.length (flat ct p.l))), (13, .pv (.int .i64 p.l.length)), (14, .pv (.int .i64 s.1))]) (fun s => s.2)
      (fun s => s.1 ≤ p.l.length ∧ hget s.2 0 = .pcells (pdc p x) ∧ hget s.2 1 = .pcells ([PV.int IntKind.i64 0, PV.int IntKind.i64 0, PV.int IntKind.i64 0, PV.int IntKind.i64 0, PV.int IntKind.i64 0]) ∧ hget s.2 n3 = .pcells (kn (foldK (p.l.take s.1)))) (fun ⟨i, G⟩ ⟨hi, k0, k1, k3⟩ r => ?_) (0, _) ⟨Nat.zero_le _, k0, k1, k3⟩ ⟨rfl, rfl, rfl, rfl, rfl, rfl, trivial⟩ rfl
    dsimp only at hi k0 k1 k3 ⊢
    refine boolK_dec (fun hc => ?_) (fun hc => ?_)
    · have hlt : i < p.l.length := by omega
      obtain ⟨c, hcg⟩ : ∃ c, p.l[i]? = some c := ⟨_, List.getElem?_eq_getElem hlt⟩
      obtain ⟨g1, g2⟩ := flat_get ct_len hcg
      have hcl : c.name.length ≤ maxLen := hs.2.2 c (List.mem_of_getElem? hcg)
      obtain ⟨_, b1, b2, b3, b4⟩ := accK_b (foldK_b hP i (by omega) (by omega)) (podP_c hP hcg) (by omega)
      have hst := foldK_step hcg
      unfold accK at hst
      refine needK_has (by (first | rfl | (simp; done) | (simp; omega))) ?_
      refine secK_has g1 g2 ?_
      refine hgetK_last ?_
      refine needK_has rfl ?_
      refine eqK_has_eq (ct c) rfl ?_
      have k5 := hget_hset_same (H := G ++ [HObj.pcells ([PV.str ⟨#[]⟩, PV.int IntKind.i64 0, PV.int IntKind.i64 0, PV.int IntKind.i64 0, PV.int IntKind.i64 0, PV.int IntKind.i64 0, PV.int IntKind.i64 0, PV.bool false, PV.bool false, PV.bool false])]) (id := G.length) (.pcells (ct c)) (by simp)
      have k0 := keep2 (.pcells ([PV.str ⟨#[]⟩, PV.int IntKind.i64 0, PV.int IntKind.i64 0, PV.int IntKind.i64 0, PV.int IntKind.i64 0, PV.int IntKind.i64 0, PV.int IntKind.i64 0, PV.bool false, PV.bool false, PV.bool false])) (.pcells (ct c)) k0 ((by intro h; cases h))
      have k1 := keep2 (.pcells ([PV.str ⟨#[]⟩, PV.int IntKind.i64 0, PV.int IntKind.i64 0, PV.int IntKind.i64 0, PV.int IntKind.i64 0, PV.int IntKind.i64 0, PV.int IntKind.i64 0, PV.bool false, PV.bool false, PV.bool false])) (.pcells (ct c)) k1 ((by intro h; cases h))
      have q3 : n3 ≠ G.length := Nat.ne_of_lt (hget_lt k3 ((by intro h; cases h)))
      have k3 := keep2 (.pcells ([PV.str ⟨#[]⟩, PV.int IntKind.i64 0, PV.int IntKind.i64 0, PV.int IntKind.i64 0, PV.int IntKind.i64 0, PV.int IntKind.i64 0, PV.int IntKind.i64 0, PV.bool false, PV.bool false, PV.bool false])) (.pcells (ct c)) k3 ((by intro h; cases h))
      generalize hset (G ++ [HObj.pcells ([PV.str ⟨#[]⟩, PV.int IntKind.i64 0, PV.int IntKind.i64 0, PV.int IntKind.i64 0, PV.int IntKind.i64 0, PV.int IntKind.i64 0, PV.int IntKind.i64 0, PV.bool false, PV.bool false, PV.bool false])]) G.length (.pcells (ct c)) = G1 at *
      generalize G.length = n5 at *
      refine hgetK_has _ k5 ?_
      refine secK_has (v := ct c) rfl (of_decide_eq_true rfl) ?_
      refine callPK_has (ctn_ok c hcl) ?_
      refine hgetK_last ?_
      refine needK_has rfl ?_
      refine eqK_has_eq (kn (knC c)) rfl ?_
      have k6 := hget_hset_same (H := G1 ++ [HObj.pcells ([PV.int IntKind.i64 0, PV.int IntKind.i64 0, PV.int IntKind.i64 0, PV.int IntKind.i64 0, PV.int IntKind.i64 0])]) (id := G1.length) (.pcells (kn (knC c))) (by simp)
      have k0 := keep2 (.pcells ([PV.int IntKind.i64 0, PV.int IntKind.i64 0, PV.int IntKind.i64 0, PV.int IntKind.i64 0, PV.int IntKind.i64 0])) (.pcells (kn (knC c))) k0 ((by intro h; cases h))
      have k1 := keep2 (.pcells ([PV.int IntKind.i64 0, PV.int IntKind.i64 0, PV.int IntKind.i64 0, PV.int IntKind.i64 0, PV.int IntKind.i64 0])) (.pcells (kn (knC c))) k1 ((by intro h; cases h))
      have q6 : n3 ≠ G1.length := Nat.ne_of_lt (hget_lt k3 ((by intro h; cases h)))
      have k3 := keep2 (.pcells ([PV.int IntKind.i64 0, PV.int IntKind.i64 0, PV.int IntKind.i64 0, PV.int IntKind.i64 0, PV.int IntKind.i64 0])) (.pcells (kn (knC c))) k3 ((by intro h; cases h))
      generalize hset (G1 ++ [HObj.pcells ([PV.int IntKind.i64 0, PV.int IntKind.i64 0, PV.int IntKind.i64 0, PV.int IntKind.i64 0, PV.int IntKind.i64 0])]) G1.length (.pcells (kn (knC c))) = G2 at *
      generalize G1.length = n6 at *
      generalize knC c = C at *
      generalize foldK (p.l.take i) = A at *
      have q3 := hget_lt k3 ((by intro h; cases h))
      refine hgetK_has _ k3 ?_
      refine getK_has rfl ?_
      refine hgetK_has _ k6 ?_
      refine getK_has rfl ?_
      refine callPK_has (kboth_ok A.cm C.cm b1) ?_
      refine hgetK_has _ k3 ?_
      refine getK_has rfl ?_
      refine hgetK_has _ k6 ?_
      refine getK_has rfl ?_
      refine callPK_has (kboth_ok A.mx C.mx b2) ?_
      refine hgetK_has _ k3 ?_
      refine needK_has rfl ?_
      refine eqK_has_eq (kn ⟨bothI A.cm C.cm, A.cw, A.mi, A.mx, A.hg⟩) rfl ?_
      have k0 := hk_set (o' := .pcells (kn ⟨bothI A.cm C.cm, A.cw, A.mi, A.mx, A.hg⟩)) k0 h30
      have k1 := hk_set (o' := .pcells (kn ⟨bothI A.cm C.cm, A.cw, A.mi, A.mx, A.hg⟩)) k1 h31
      have k6 := hk_set (o' := .pcells (kn ⟨bothI A.cm C.cm, A.cw, A.mi, A.mx, A.hg⟩)) k6 (Ne.symm q6)
      have k3 := hget_hset_same (.pcells (kn ⟨bothI A.cm C.cm, A.cw, A.mi, A.mx, A.hg⟩)) q3
      generalize hset G2 n3 (.pcells (kn ⟨bothI A.cm C.cm, A.cw, A.mi, A.mx, A.hg⟩)) = G3 at *
      have q3 := hget_lt k3 ((by intro h; cases h))
      refine hgetK_has _ k3 ?_
      refine needK_has rfl ?_
      refine eqK_has_eq (kn ⟨bothI A.cm C.cm, A.cw, A.mi, bothI A.mx C.mx, A.hg⟩) rfl ?_
      have k0 := hk_set (o' := .pcells (kn ⟨bothI A.cm C.cm, A.cw, A.mi, bothI A.mx C.mx, A.hg⟩)) k0 h30
      have k1 := hk_set (o' := .pcells (kn ⟨bothI A.cm C.cm, A.cw, A.mi, bothI A.mx C.mx, A.hg⟩)) k1 h31
      have k6 := hk_set (o' := .pcells (kn ⟨bothI A.cm C.cm, A.cw, A.mi, bothI A.mx C.mx, A.hg⟩)) k6 (Ne.symm q6)
      have k3 := hget_hset_same (.pcells (kn ⟨bothI A.cm C.cm, A.cw, A.mi, bothI A.mx C.mx, A.hg⟩)) q3
      generalize hset G3 n3 (.pcells (kn ⟨bothI A.cm C.cm, A.cw, A.mi, bothI A.mx C.mx, A.hg⟩)) = G4 at *
      have q3 := hget_lt k3 ((by intro h; cases h))
      refine hgetK_has _ k3 ?_
      refine getK_has rfl ?_
      refine hgetK_has _ k6 ?_
      refine getK_has rfl ?_
      refine eqK_has_eq _ (wrap_i64 b3.1 b3.2) ?_
      refine hgetK_has _ k3 ?_
      refine needK_has rfl ?_
      refine eqK_has_eq (kn ⟨bothI A.cm C.cm, A.cw, A.mi + C.mi, bothI A.mx C.mx, A.hg⟩) rfl ?_
      have k0 := hk_set (o' := .pcells (kn ⟨bothI A.cm C.cm, A.cw, A.mi + C.mi, bothI A.mx C.mx, A.hg⟩)) k0 h30
      have k1 := hk_set (o' := .pcells (kn ⟨bothI A.cm C.cm, A.cw, A.mi + C.mi, bothI A.mx C.mx, A.hg⟩)) k1 h31
      have k6 := hk_set (o' := .pcells (kn ⟨bothI A.cm C.cm, A.cw, A.mi + C.mi, bothI A.mx C.mx, A.hg⟩)) k6 (Ne.symm q6)
      have k3 := hget_hset_same (.pcells (kn ⟨bothI A.cm C.cm, A.cw, A.mi + C.mi, bothI A.mx C.mx, A.hg⟩)) q3
      generalize hset G4 n3 (.pcells (kn ⟨bothI A.cm C.cm, A.cw, A.mi + C.mi, bothI A.mx C.mx, A.hg⟩)) = G5 at *
      have q3 := hget_lt k3 ((by intro h; cases h))
      refine hgetK_has _ k3 ?_
      refine getK_has rfl ?_
      refine hgetK_has _ k6 ?_
      refine getK_has rfl ?_
      refine eqK_has_eq _ (wrap_i64 b4.1 b4.2) ?_
      refine hgetK_has _ k3 ?_
      refine needK_has rfl ?_
      refine eqK_has_eq (kn ⟨bothI A.cm C.cm, A.cw, A.mi + C.mi, bothI A.mx C.mx, A.hg + C.hg⟩) rfl ?_
      have k0 := hk_set (o' := .pcells (kn ⟨bothI A.cm C.cm, A.cw, A.mi + C.mi, bothI A.mx C.mx, A.hg + C.hg⟩)) k0 h30
      have k1 := hk_set (o' := .pcells (kn ⟨bothI A.cm C.cm, A.cw, A.mi + C.mi, bothI A.mx C.mx, A.hg + C.hg⟩)) k1 h31
      have k3 := hget_hset_same (.pcells (kn ⟨bothI A.cm C.cm, A.cw, A.mi + C.mi, bothI A.mx C.mx, A.hg + C.hg⟩)) q3
      generalize hset G5 n3 (.pcells (kn ⟨bothI A.cm C.cm, A.cw, A.mi + C.mi, bothI A.mx C.mx, A.hg + C.hg⟩)) = G6 at *
      refine eqK_has_eq _ (i64_succ (by omega)) ?_
      refine Has.intro ⟨(i + 1, G6), ⟨hlt, k0, k1, ?_⟩, (by dsimp only; omega), ⟨rfl, rfl, rfl, rfl, rfl, rfl, trivial⟩, rfl⟩
      dsimp only
      rw [hst]; exact k3
    · obtain rfl : i = p.l.length := by omega
      rw [List.take_length] at k3
      exact Has.intro (Has.intro ⟨rfl, G, ⟨k0, k1, k3⟩, ⟨rfl, rfl, rfl, trivial⟩, rfl⟩)
  have hw : in64 ((sumV (rqs p.l)).getD v0).c := by have := (sumV_R (rqs p.l)).1; unfold in64; omega
  have q3 := hget_lt k3 ((by intro h; cases h))
  have e : knP p = { foldK p.l with cw := wI ((sumV (rqs p.l)).getD v0).c } := by unfold knP; rw [if_pos hP]
  refine hgetK_has _ k0 ?_
  refine secK_has (v := pdc p x) rfl (of_decide_eq_true rfl) ?_
  refine callPK_has (req_ok x p (by omega)) ?_
  refine getK_has rfl ?_
  refine callPK_has (weight_ok _ hw) ?_
  refine hgetK_has _ k3 ?_
  refine needK_has rfl ?_
  refine eqK_has_eq (kn (knP p)) (by rw [e]; rfl) ?_
  refine hgetK_has _ (hget_hset_same _ q3) ?_
  refine secK_has (v := kn (knP p)) rfl (of_decide_eq_true rfl) ?_
  have k1 := hk_set (o' := .pcells (kn (knP p))) k1 h31
  have q1 := hget_lt k1 ((by intro h; cases h))
  refine hgetK_has _ k1 ?_
  refine needK_has rfl ?_
  refine eqK_has_eq (kn (knP p)) rfl ?_
  refine hgetK_has _ (hget_hset_same _ q1) ?_
  refine secK_has (v := kn (knP p)) rfl (of_decide_eq_true rfl) ?_
  exact Has.intro (Has.intro rfl)
end Go.Proofs.YtmickbidffdklaaDoor

namespace Go.Proofs.YtmickbidffdklaaDoor
open Go Go.VM

theorem kn_eq (a b : Kn) : aggEq [.i, .i, .i, .i, .i] (kn a) (kn b) = some (decide (a = b)) := by
  show some _ = some _
  congr 1
  rw [Bool.eq_iff_iff, decide_eq_true_iff]
  obtain ⟨a1, a2, a3, a4, a5⟩ := a
  obtain ⟨b1, b2, b3, b4, b5⟩ := b
  simp only [Bool.and_eq_true, beq_iff_eq, Kn.mk.injEq]
  constructor
  · rintro ⟨h1, h2, h3, h4, h5, _⟩
    exact ⟨h1, h2, h3, h4, h5⟩
  · rintro ⟨h1, h2, h3, h4, h5⟩
    exact ⟨h1, h2, h3, h4, h5, trivial⟩
theorem kn_same (a : Kn) : aggEq [.i, .i, .i, .i, .i] (kn a) (kn a) = some true := (kn_eq a a).trans (by rw [decide_eq_true rfl])
def w1 : Vc := ⟨1000, 1048576, 0⟩
def c1 : Ct := ⟨[97], w1, ⟨0, 2097152, 0⟩, false, false, false⟩
def c2 : Ct := ⟨[98], w1, w1, false, false, false⟩
def p1 : Pd := ⟨[112], 0, 0, [c1, c2]⟩
def kc1 : Kn := ⟨(4611686018427387904), 39, 1048576, 2097152, 0⟩
def kp1 : Kn := ⟨(4611686018427387904), wI 2000, 2097152, 3145728, 0⟩
theorem kc1_is : knC c1 = kc1 := by decide
theorem p1_ok : podP p1 := by
  refine ⟨(by decide), (by decide), (by decide), (by decide), fun i d h => ?_, by decide, by decide⟩
  match i, h with
  | 0, h => injection h with h; subst h; exact ⟨by decide, by decide⟩
  | 1, h => injection h with h; subst h; exact ⟨by decide, by decide⟩
  | i + 2, h => simp [p1] at h
theorem kp1_is : knP p1 = kp1 := by
  unfold knP; rw [if_pos p1_ok]; decide
theorem p1_small : small p1 := ⟨by decide, by decide, fun c hc => by
  rcases List.mem_cons.1 hc with rfl | hc
  · decide
  · rcases List.mem_cons.1 hc with rfl | hc
    · decide
    · cases hc⟩
theorem text1 : textL kc1 = [109, 97, 120, 32, 51, 57, 32, 49, 48, 52, 56, 53, 55, 54, 32, 50, 48, 57, 55, 49, 53, 50, 32, 48] := by kernel_rfl
theorem kc1_R : kR kc1 := by unfold kR in64; decide
theorem right1 : rightP kc1 := by decide
theorem right2 : ¬ rightP ⟨(4611686018427387904), 100, (4611686018427387904), (4611686018427387904), (4611686018427387904)⟩ := by decide
theorem w2000 : in64 2000 := by unfold in64; decide
theorem w00 : in64 0 := by unfold in64; decide
set_option maxRecDepth 20000 in
set_option maxHeartbeats 4000000 in
theorem first_ok : EP (EE env) 8 [] = some (.bool true) := by
  refine Has.eq (EP_has (fn_has rfl ?_))
  refine seq_on [] [] (by (refine Has.intro ⟨rfl, ?_, rfl⟩; (repeat (first | exact trivial | refine ⟨rfl, ?_⟩)))) (fun r => ?_)
  refine seq_on [(1, .ptr 0 0)] [.pcells (vc w1)] ?_ (fun r => ?_)
  · refine hgetK_last ?_
    refine needK_has rfl ?_
    refine eqK_has_eq (vc w1) rfl ?_
    (refine Has.intro ⟨rfl, ?_, rfl⟩; (repeat (first | exact trivial | refine ⟨rfl, ?_⟩)))
  refine seq_on [(1, .ptr 0 0), (2, .ptr 1 0)] [.pcells (vc w1), .pcells (ct c1)] ?_ (fun r => ?_)
  · refine hgetK_has (.pcells (vc w1)) rfl ?_
    refine secK_has (v := vc w1) rfl (of_decide_eq_true rfl) ?_
    refine hgetK_has _ rfl ?_
    refine needK_has rfl ?_
    refine eqK_has_eq (ct c1) rfl ?_
    (refine Has.intro ⟨rfl, ?_, rfl⟩; (repeat (first | exact trivial | refine ⟨rfl, ?_⟩)))
  refine seq_on [(1, .ptr 0 0), (2, .ptr 1 0), (3, .ptr 2 0)] [.pcells (vc w1), .pcells (ct c1), .pcells (kn kc1)] ?_ (fun r => ?_)
  · refine hgetK_has (.pcells (ct c1)) rfl ?_
    refine secK_has (v := ct c1) rfl (of_decide_eq_true rfl) ?_
    refine callPK_has (ctn_ok c1 (by decide)) ?_
    rw [kc1_is]
    refine hgetK_has _ rfl ?_
    refine needK_has rfl ?_
    refine eqK_has_eq (kn kc1) rfl ?_
    (refine Has.intro ⟨rfl, ?_, rfl⟩; (repeat (first | exact trivial | refine ⟨rfl, ?_⟩)))
  refine seq_on [(2, .ptr 1 0), (3, .ptr 2 0), (4, .ptr 3 0)] [.pcells (vc w1), .pcells (ct c1), .pcells (kn kc1), .pcells (kn kp1)] ?_ (fun r => ?_)
  · refine hgetK_has (.pcells (ct c1)) rfl ?_
    refine secK_has (v := ct c1) rfl (of_decide_eq_true rfl) ?_
    refine hgetK_has (.pcells (vc w1)) rfl ?_
    refine secK_has (v := vc w1) rfl (of_decide_eq_true rfl) ?_
    refine hgetK_has (.pcells (vc w1)) rfl ?_
    refine secK_has (v := vc w1) rfl (of_decide_eq_true rfl) ?_
    refine callPK_has (kpod_ok .nnx p1 p1_small) ?_
    rw [kp1_is]
    refine hgetK_has _ rfl ?_
    refine needK_has rfl ?_
    refine eqK_has_eq (kn kp1) rfl ?_
    (refine Has.intro ⟨rfl, ?_, rfl⟩; (repeat (first | exact trivial | refine ⟨rfl, ?_⟩)))
  refine hgetK_has (.pcells (kn kc1)) rfl ?_
  refine secK_has (v := kn kc1) rfl (of_decide_eq_true rfl) ?_
  refine callPK_has ((text_ok kc1 kc1_R).trans (by rw [text1])) ?_
  refine boolK_has_true (beq_self_eq_true _) ?_
  refine hgetK_has (.pcells (kn kp1)) rfl ?_
  refine secK_has (v := kn kp1) rfl (of_decide_eq_true rfl) ?_
  refine callPK_has (weight_ok 2000 w2000) ?_
  refine bindK_has (kn_same kp1) ?_
  refine boolK_has_true rfl ?_
  refine callPK_has (weight_ok 0 w00) ?_
  refine boolK_has_true rfl ?_
  refine hgetK_has (.pcells (kn kc1)) rfl ?_
  refine secK_has (v := kn kc1) rfl (of_decide_eq_true rfl) ?_
  refine callPK_dec_t (right_ok6 kc1) right1 ?_
  refine callPK_has root_ok ?_
  refine callPK_dec_f (right_ok6 _) right2 ?_
  refine hgetK_has (.pcells (kn kc1)) rfl ?_
  refine secK_has (v := kn kc1) rfl (of_decide_eq_true rfl) ?_
  refine callPK_has (at_ok6 kc1 2) ?_
  refine boolK_has_true rfl ?_
  refine hgetK_has (.pcells (kn kc1)) rfl ?_
  refine secK_has (v := kn kc1) rfl (of_decide_eq_true rfl) ?_
  refine callPK_has (with_ok kc1 4 7) ?_
  refine getK_has rfl ?_
  refine boolK_has_true rfl ?_
  exact Has.intro (Has.intro rfl)
end Go.Proofs.YtmickbidffdklaaDoor

namespace Go.Proofs.YtmickbidffdklaaDoor
open Go Go.VM

abbrev TK : Ty := .st [(1, .int .i64), (1, .int .i64), (1, .int .i64), (1, .int .i64), (1, .int .i64)]
abbrev T2 : Ty := .arr 2 1 (.int .i64)
theorem fits_in {n : Int} (h : (Lit.int .i64 n).wf = true) : in64 n := by
  simp only [Lit.wf, IntKind.min, IntKind.max, IntKind.bits, IntKind.signed, Bool.and_eq_true, decide_eq_true_eq] at h
  simp at h
  unfold in64
  omega
theorem arg_int {p : PV} (h : HasArg (.int .i64) p) : ∃ n, p = .int .i64 n ∧ in64 n := by
  obtain ⟨n, h1, h2⟩ := h
  injection h1 with h1
  exact ⟨n, h1, fits_in h2⟩
theorem arg_kn {p : PV} (h : HasArg TK p) : ∃ k, p = .agg (kn k) ∧ kR k := by
  obtain ⟨ps, rfl, _, _, rfl, _, ⟨a, rfl, ha⟩, _, _, rfl, _, ⟨b, rfl, hb⟩, _, _, rfl, _, ⟨c, rfl, hc⟩, _, _, rfl, _, ⟨d, rfl, hd⟩, _, _, rfl, _, ⟨e, rfl, he⟩, rfl⟩ := h
  exact ⟨⟨a, b, c, d, e⟩, rfl, fits_in ha, fits_in hb, fits_in hc, fits_in hd, fits_in he⟩
theorem arg_two {p : PV} (h : HasArg T2 p) : ∃ a b, p = .agg [.int .i64 a, .int .i64 b] := by
  obtain ⟨ps, rfl, _, _, rfl, _, ⟨a, rfl, ha⟩, _, _, rfl, _, ⟨b, rfl, hb⟩, rfl⟩ := h
  exact ⟨a, b, rfl⟩
theorem rise_law (ps : List PV) (h : HasArgs [.int .i64, .int .i64] ps) : ∃ H', EE env (.fn 6) (ps.map .pv) [] = some (.pv (.bool true), H') := by
  obtain ⟨p1, _, rfl, h1, p2, _, rfl, h2, rfl⟩ := h
  obtain ⟨a, rfl, ha⟩ := arg_int h1
  obtain ⟨b, rfl, hb⟩ := arg_int h2
  refine law_end (EE_has ?_)
  refine callPK_has first_ok ?_
  obtain ⟨m, hm⟩ : ∃ m, m = (if b < a then b else a) := ⟨_, rfl⟩
  obtain ⟨M, hM⟩ : ∃ M, M = (if b > a then b else a) := ⟨_, rfl⟩
  have hmi : in64 m := by rw [hm]; split <;> assumption
  have hMi : in64 M := by rw [hM]; split <;> assumption
  have hmM : m ≤ M := by rw [hm, hM]; split <;> split <;> omega
  refine eqK_has_eq m hm.symm ?_
  refine callPK_has (weight_ok m hmi) ?_
  refine eqK_has_eq M hM.symm ?_
  refine callPK_has (weight_ok M hMi) ?_
  have r1 := wI_range m
  have r2 := wI_range M
  have r3 := wI_mono hmM
  refine boolK_dec_t (by omega) ?_
  refine boolK_dec_t (by omega) ?_
  refine boolK_dec_t (by omega) ?_
  exact Has.intro rfl
theorem set_get {k : Kn} {f n : Int} (h0 : ¬ f < 0) (h1 : ¬ f > 4) : atI (setI k f n) f = n := by
  rcases five h0 h1 with rfl | rfl | rfl | rfl | rfl <;> rfl
theorem set_back {k : Kn} {f n : Int} (h0 : ¬ f < 0) (h1 : ¬ f > 4) : setI (setI k f n) f (atI k f) = k := by
  rcases five h0 h1 with rfl | rfl | rfl | rfl | rfl <;> rfl
theorem set_other {k : Kn} {f g n : Int} (h : f ≠ g) : atI (setI k f n) g = atI k g := by
  unfold atI setI
  by_cases f0 : f = 0
  · subst f0; rw [if_pos rfl, if_neg (Ne.symm h), if_neg (Ne.symm h)]
  by_cases f1 : f = 1
  · subst f1; rw [if_neg f0, if_pos rfl]; by_cases g0 : g = 0 <;> simp [g0, Ne.symm h]
  by_cases f2 : f = 2
  · subst f2; rw [if_neg f0, if_neg f1, if_pos rfl]; by_cases g0 : g = 0 <;> by_cases g1 : g = 1 <;> simp [g0, g1, Ne.symm h]
  by_cases f3 : f = 3
  · subst f3; rw [if_neg f0, if_neg f1, if_neg f2, if_pos rfl]; by_cases g0 : g = 0 <;> by_cases g1 : g = 1 <;> by_cases g2 : g = 2 <;> simp [g0, g1, g2, Ne.symm h]
  by_cases f4 : f = 4
  · subst f4; rw [if_neg f0, if_neg f1, if_neg f2, if_neg f3, if_pos rfl]; by_cases g0 : g = 0 <;> by_cases g1 : g = 1 <;> by_cases g2 : g = 2 <;> by_cases g3 : g = 3 <;> simp [g0, g1, g2, g3, Ne.symm h]
  rw [if_neg f0, if_neg f1, if_neg f2, if_neg f3, if_neg f4]
theorem set_swap {k : Kn} {f g n m : Int} (h0 : ¬ f < 0) (h1 : ¬ f > 4) (h : f ≠ g) : setI (setI k f n) g m = setI (setI k g m) f n := by
  by_cases hg : g < 0 ∨ g > 4
  · rw [setI_out hg, setI_out hg]
  · rcases five h0 h1 with rfl | rfl | rfl | rfl | rfl <;> rcases five (f := g) (by omega) (by omega) with rfl | rfl | rfl | rfl | rfl <;> first | rfl | exact absurd rfl h
set_option maxRecDepth 20000 in
set_option maxHeartbeats 4000000 in
theorem files_law (ps : List PV) (h : HasArgs [TK, T2, T2] ps) : ∃ H', EE env (.fn 7) (ps.map .pv) [] = some (.pv (.bool true), H') := by
  obtain ⟨p1, _, rfl, h1, p2, _, rfl, h2, p3, _, rfl, h3, rfl⟩ := h
  obtain ⟨k, rfl, hk⟩ := arg_kn h1
  obtain ⟨f, g, rfl⟩ := arg_two h2
  obtain ⟨n, m, rfl⟩ := arg_two h3
  refine law_end (EE_has (fn_has rfl ?_))
  refine seq_on [(3, .ptr 0 0), (4, .ptr 1 0), (5, .ptr 2 0), (6, .pv (.bool false))] [.pcells (kn k), .pcells [.int .i64 f, .int .i64 g], .pcells [.int .i64 n, .int .i64 m]] (by (refine Has.intro ⟨rfl, ?_, rfl⟩; (repeat (first | exact trivial | refine ⟨rfl, ?_⟩)))) (fun r => ?_)
  refine seq_on [(3, .ptr 0 0), (4, .ptr 1 0), (5, .ptr 2 0), (6, .pv (.bool false))] [.pcells (kn k), .pcells [.int .i64 f, .int .i64 g], .pcells [.int .i64 n, .int .i64 m]] (by refine callPK_has first_ok ?_; (refine Has.intro ⟨rfl, ?_, rfl⟩; (repeat (first | exact trivial | refine ⟨rfl, ?_⟩)))) (fun r => ?_)
  refine seq_on [(3, .ptr 0 0), (7, .pv (.int .i64 f)), (8, .pv (.int .i64 g)), (9, .pv (.int .i64 n)), (10, .pv (.int .i64 m))] [.pcells (kn k), .pcells [.int .i64 f, .int .i64 g], .pcells [.int .i64 n, .int .i64 m]] (by (repeat (first | refine hgetK_last ?_ | refine hgetK_set ?_ | refine hgetK_has _ rfl ?_ | refine needK_has rfl ?_ | refine getK_has rfl ?_ | refine secK_has rfl (by first | exact Nat.le_refl _ | decide) ?_ | refine eqK_has ?_)); (refine Has.intro ⟨rfl, ?_, rfl⟩; (repeat (first | exact trivial | refine ⟨rfl, ?_⟩)))) (fun r => ?_)
  refine seq_on [(3, .ptr 0 0), (7, .pv (.int .i64 f)), (8, .pv (.int .i64 g)), (9, .pv (.int .i64 n)), (10, .pv (.int .i64 m)), (11, .ptr 3 0)] [.pcells (kn k), .pcells [.int .i64 f, .int .i64 g], .pcells [.int .i64 n, .int .i64 m], .pcells (kn (setI k f n))] ?_ (fun r => ?_)
  · refine hgetK_has (.pcells (kn k)) rfl ?_
    refine secK_has (v := kn k) rfl (of_decide_eq_true rfl) ?_
    refine callPK_has (with_ok k f n) ?_
    refine hgetK_has _ rfl ?_
    refine needK_has rfl ?_
    refine eqK_has_eq (kn (setI k f n)) rfl ?_
    (refine Has.intro ⟨rfl, ?_, rfl⟩; (repeat (first | exact trivial | refine ⟨rfl, ?_⟩)))
  by_cases hf : f < 0 ∨ f > 4
  · have e := setI_out (k := k) (n := n) hf
    have e0 := atI_out (k := k) hf
    rw [e]
    refine boolK_dec (fun h => ?_) (fun h => ?_)
    rotate_left
    refine boolK_dec (fun h => ?_) (fun h => ?_)
    rotate_left
    · omega
    all_goals
      (refine hgetK_has (.pcells (kn k)) rfl ?_; refine secK_has (v := kn k) rfl (of_decide_eq_true rfl) ?_)
      (refine hgetK_has (.pcells (kn k)) rfl ?_; refine secK_has (v := kn k) rfl (of_decide_eq_true rfl) ?_)
      refine bindK_has (kn_same k) ?_
      refine boolK_has_true rfl ?_
      (refine hgetK_has (.pcells (kn k)) rfl ?_; refine secK_has (v := kn k) rfl (of_decide_eq_true rfl) ?_)
      refine callPK_has (at_ok6 k f) ?_
      refine boolK_has_true (by rw [e0]; rfl) ?_
      exact Has.intro rfl
  · have hf0 : ¬ f < 0 := by omega
    have hf4 : ¬ f > 4 := by omega
    refine boolK_dec_f hf0 ?_
    refine boolK_dec_f hf4 ?_
    (refine hgetK_has (.pcells (kn (setI k f n))) rfl ?_; refine secK_has (v := kn (setI k f n)) rfl (of_decide_eq_true rfl) ?_)
    refine callPK_has (at_ok6 _ f) ?_
    rw [set_get hf0 hf4]
    refine boolK_has_false (by simp) ?_
    (refine hgetK_has (.pcells (kn (setI k f n))) rfl ?_; refine secK_has (v := kn (setI k f n)) rfl (of_decide_eq_true rfl) ?_)
    (refine hgetK_has (.pcells (kn k)) rfl ?_; refine secK_has (v := kn k) rfl (of_decide_eq_true rfl) ?_)
    refine callPK_has (at_ok6 k f) ?_
    refine callPK_has (with_ok _ f _) ?_
    rw [set_back hf0 hf4]
    (refine hgetK_has (.pcells (kn k)) rfl ?_; refine secK_has (v := kn k) rfl (of_decide_eq_true rfl) ?_)
    refine bindK_has (kn_same k) ?_
    refine boolK_has_false rfl ?_
    refine boolK_beq (fun hg => ?_) (fun hg => ?_)
    · exact Has.intro rfl
    (refine hgetK_has (.pcells (kn (setI k f n))) rfl ?_; refine secK_has (v := kn (setI k f n)) rfl (of_decide_eq_true rfl) ?_)
    refine callPK_has (at_ok6 _ g) ?_
    (refine hgetK_has (.pcells (kn k)) rfl ?_; refine secK_has (v := kn k) rfl (of_decide_eq_true rfl) ?_)
    refine callPK_has (at_ok6 k g) ?_
    rw [set_other hg]
    refine boolK_has_true (beq_self_eq_true _) ?_
    (refine hgetK_has (.pcells (kn (setI k f n))) rfl ?_; refine secK_has (v := kn (setI k f n)) rfl (of_decide_eq_true rfl) ?_)
    refine callPK_has (with_ok _ g m) ?_
    (refine hgetK_has (.pcells (kn k)) rfl ?_; refine secK_has (v := kn k) rfl (of_decide_eq_true rfl) ?_)
    refine callPK_has (with_ok _ g m) ?_
    refine callPK_has (with_ok _ f n) ?_
    rw [set_swap hf0 hf4 hg]
    refine bindK_has (kn_same _) ?_
    refine boolK_has_true rfl ?_
    exact Has.intro rfl
end Go.Proofs.YtmickbidffdklaaDoor

namespace Go.Proofs.YtmickbidffdklaaDoor
open Go Go.VM

abbrev laidL : List (String × DataW Unit) := [("math/bits.deBruijn32tab", Rows.laid_math_bits_deBruijn32tab), ("math/bits.deBruijn64tab", Rows.laid_math_bits_deBruijn64tab), ("internal/strconv.uint64pow10", Rows.laid_internal_strconv_uint64pow10)]
theorem gT : Tryd.prog.globalNamed "internal/strconv.uint64pow10" = some 0 := by kernel_rfl
theorem gTT : (Tryd.prog.globals[0]?).map (·.type) = some 84 := by kernel_rfl
theorem laid_tab : (Rows.laid_internal_strconv_uint64pow10 : DataW Unit) = Lib.tabData .u64 Lib.pow10Tab := by kernel_rfl
theorem tab_of_laid {W : World} (h : laidMetH Tryd.prog laidL W) : Lib.TabIs Tryd.prog W "internal/strconv.uint64pow10" .u64 Lib.pow10Tab := by
  have h' : laidMet Tryd.prog laidL W := h
  obtain ⟨ps, ⟨_, _, _, _, _, _, _, _, _, _, ⟨_, _, _, _, _, _, _, _, _, _, ⟨g', t', cs, fuel, p, q, hg', ht', hvar, hd, _, _⟩, _⟩, _⟩, _⟩ := h'
  obtain rfl := Option.some.inj (gT.symm.trans hg')
  obtain rfl := Option.some.inj (gTT.symm.trans ht')
  rw [laid_tab] at hd
  unfold Lib.TabIs
  rw [hvar, ← Lib.cells_of_tab Tryd.underlying84 Tryd.underlying80 (by kernel_rfl) (by kernel_rfl) hd]
theorem laid_cell {W : World} (h : laidMetH Tryd.prog laidL W) (i : Nat) : W.cell? ⟨0, i, none⟩ = tab10[i]? := by
  rw [World.var?_cell gT (tab_of_laid h) i]
  simp [tab10]
theorem laid_gi {W : World} (h : laidMetH Tryd.prog laidL W) : gi.le (Imm.of W) := by
  intro a v hv
  obtain ⟨b, o, s⟩ := a
  unfold gi at hv
  dsimp only at hv
  cases hb : (b == 0 && s.isNone) with
  | false => rw [hb] at hv; cases hv
  | true =>
    rw [hb] at hv
    simp only [Bool.and_eq_true, beq_iff_eq, Option.isNone_iff_eq_none] at hb
    obtain ⟨rfl, rfl⟩ := hb
    exact (laid_cell h o).trans hv
theorem laid_gn {W : World} (h : laidMetH Tryd.prog laidL W) : ∀ a, gn a = true → a.block < W.heap.size ∧ W.cell? a = none := by
  intro a ha
  obtain ⟨b, o, s⟩ := a
  unfold gn at ha
  simp only [Bool.and_eq_true, beq_iff_eq, Option.isNone_iff_eq_none, decide_eq_true_eq] at ha
  obtain ⟨⟨rfl, rfl⟩, ho⟩ := ha
  have hl : tab10.length = 20 := by simp [tab10, Lib.pow10Tab_length]
  refine ⟨?_, ?_⟩
  · have h0 := laid_cell h 0
    rw [List.getElem?_eq_getElem (by omega)] at h0
    have := block_lt h0
    exact this
  · rw [laid_cell h o, List.getElem?_eq_none (by omega)]
/-- A world in which the variables hold what they hold. -/
noncomputable def laidWorld (os : Os) : World :=
  let w0 := World.holding Tryd.prog os ⟨#[], #[], []⟩
  { w0 with heap := ((w0.heap.modify 0 fun
      | .cells _ t frozen => .cells (Lib.pow10Tab.map fun z => Value.int .u64 z).toArray t frozen
      | o => o).modify 2 fun
      | .cells _ t frozen => .cells (([0, 1, 28, 2, 29, 14, 24, 3, 30, 22, 20, 15, 25, 17, 4, 8, 31, 27, 13, 23, 21, 19, 16, 7, 26, 12, 18, 6, 11, 5, 10, 9] : List Int).map fun z => Value.int .u8 z).toArray t frozen
      | o => o).modify 3 fun
      | .cells _ t frozen => .cells (([0, 1, 56, 2, 57, 49, 28, 3, 61, 58, 42, 50, 38, 29, 17, 4, 62, 47, 59, 36, 45, 43, 51, 22, 53, 39, 33, 30, 24, 18, 12, 5, 63, 55, 48, 27, 60, 41, 37, 16, 46, 35, 44, 21, 52, 32, 23, 11, 54, 26, 40, 15, 34, 20, 31, 10, 25, 14, 19, 9, 13, 8, 7, 6] : List Int).map fun z => Value.int .u8 z).toArray t frozen
      | o => o }
theorem laid_met (os : Os) (args : Array Value) : laidMetH Tryd.prog laidL ((laidWorld os).forCall (fun _ _ => 0) ⟨#[], args, []⟩).memory :=
  laidMetH_of_parts (laidMet_of_run' 8 (by kernel_rfl) (by kernel_rfl)) (by kernel_rfl)
end Go.Proofs.YtmickbidffdklaaDoor

namespace Go.Proofs.YtmickbidffdklaaDoor
open Go Go.VM

theorem knC_of {c : Ct} (h : cP c) : knC c = ⟨limI c.lm.c, wI c.rq.c, c.rq.m, limI c.lm.m, c.lm.h⟩ := by unfold knC; rw [if_pos h]
theorem knC_right {c : Ct} (h : cP c) : rightP (knC c) := by
  obtain ⟨c1, c2, c3, c4, c5, c6⟩ := knC_b h
  have hmm : (knC c).mi ≤ (knC c).mx := by
    rw [knC_of h]
    dsimp only
    obtain ⟨_, h1, h2, _, _, h3⟩ := h
    unfold vR at h1 h2
    unfold limI
    split <;> omega
  unfold rightP sumP
  unfold bL at c1 c2
  omega
theorem bothI_le {n : Nat} {a b : Int} (h1 : bL n a) (h2 : bL 1 b) (hn : n ≤ 100) : a ≤ bothI a b ∧ b ≤ bothI a b := by
  unfold bL at h1 h2
  unfold bothI
  split <;> omega
/-- What a container's knobs are to the sums. -/
def below (k s : Kn) : Prop := k.cm ≤ s.cm ∧ k.mi ≤ s.mi ∧ k.mx ≤ s.mx ∧ k.hg ≤ s.hg
theorem below_step {n : Nat} {a : Kn} {c : Ct} (h : bK n a) (hc : cP c) (hn : n ≤ 100) : below a (accK a c) ∧ below (knC c) (accK a c) := by
  obtain ⟨c1, c2, c3, c4, _⟩ := knC_b hc
  obtain ⟨h1, h2, h3, h4, _⟩ := h
  obtain ⟨q1, q2⟩ := bothI_le h1 c1 hn
  obtain ⟨q3, q4⟩ := bothI_le h2 c2 hn
  refine ⟨⟨q1, ?_, q3, ?_⟩, ⟨q2, ?_, q4, ?_⟩⟩
  · show a.mi ≤ a.mi + (knC c).mi; omega
  · show a.hg ≤ a.hg + (knC c).hg; omega
  · show (knC c).mi ≤ a.mi + (knC c).mi; omega
  · show (knC c).hg ≤ a.hg + (knC c).hg; omega
theorem below_trans {a b c : Kn} (h1 : below a b) (h2 : below b c) : below a c := by unfold below at *; omega
theorem below_all {p : Pd} (h : podP p) {i : Nat} {c : Ct} (hc : p.l[i]? = some c) : ∀ m, m ≤ p.l.length → m ≤ 100 → i < m → below (knC c) (foldK (p.l.take m)) := by
  intro m
  induction m with
  | zero => intro _ _ hi; omega
  | succ m ih =>
    intro hm hn hi
    have hg : p.l[m]? = some p.l[m] := List.getElem?_eq_getElem (by omega)
    obtain ⟨s1, s2⟩ := below_step (foldK_b h m (by omega) (by omega)) (podP_c h hg) (by omega)
    rw [foldK_step hg]
    by_cases e : i = m
    · subst e
      rw [hc] at hg; injection hg with hg; rw [← hg] at s2 ⊢; exact s2
    · exact below_trans (ih (by omega) (by omega) (by omega)) s1
theorem fold_mm {p : Pd} (h : podP p) : ∀ i, i ≤ p.l.length → i ≤ 100 → (foldK (p.l.take i)).mi ≤ (foldK (p.l.take i)).mx := by
  intro i
  induction i with
  | zero => intro _ _; show k0.mi ≤ k0.mx; decide
  | succ i ih =>
    intro hi hn
    have hg : p.l[i]? = some p.l[i] := List.getElem?_eq_getElem (by omega)
    rw [foldK_step hg]
    have h1 := ih (by omega) (by omega)
    have hr := knC_right (podP_c h hg)
    obtain ⟨h2, _, _, _, h5, h6, h7⟩ := hr
    obtain ⟨b1, b2, b3, b4, b5⟩ := foldK_b h i (by omega) (by omega)
    obtain ⟨c1, c2, c3, c4, _⟩ := knC_b (podP_c h hg)
    show (foldK (p.l.take i)).mi + (knC p.l[i]).mi ≤ bothI (foldK (p.l.take i)).mx (knC p.l[i]).mx
    unfold bothI
    split <;> omega
theorem knP_of {p : Pd} (h : podP p) : knP p = { foldK p.l with cw := wI ((sumV (rqs p.l)).getD v0).c } := by unfold knP; rw [if_pos h]
theorem knP_right {p : Pd} (h : podP p) : rightP (knP p) := by
  have hl := h.2.2.2.1
  have hb := foldK_b h p.l.length (Nat.le_refl _) (by omega)
  have hm := fold_mm h p.l.length (Nat.le_refl _) (by omega)
  rw [List.take_length] at hb hm
  have hw := wI_range ((sumV (rqs p.l)).getD v0).c
  rw [knP_of h]
  obtain ⟨b1, b2, b3, b4, b5⟩ := hb
  unfold bL at b1 b2
  unfold rightP sumP
  dsimp only
  generalize hn : ((p.l.length : Nat) : Int) = n at *
  have : n ≤ 6 := by omega
  omega
theorem knP_below {p : Pd} (h : podP p) {i : Nat} {c : Ct} (hc : p.l[i]? = some c) : below (knC c) (knP p) := by
  have hl := h.2.2.2.1
  have hi : i < p.l.length := by
    rcases Nat.lt_or_ge i p.l.length with h | h
    · exact h
    · rw [List.getElem?_eq_none h] at hc; cases hc
  have := below_all h hc p.l.length (Nat.le_refl _) (by omega) hi
  rw [List.take_length] at this
  rw [knP_of h]
  exact this
/-- A sum that stops at the greatest. -/
def stP (s a : Int) : Prop := 0 ≤ s ∧ s ≤ 9223372036854775807 ∧ (if (4611686018427387904) < s then (4611686018427387904) else s) ≤ a
theorem stP_zero : stP 0 k0.cm := by unfold stP; decide
theorem stP_step {n : Nat} {s a b : Int} (h : stP s a) (h1 : bL n a) (h2 : bL 1 b) (hn : n ≤ 100) : (s < (4611686018427387904) → in64 (s + b) ∧ stP (s + b) (bothI a b)) ∧ (¬ s < (4611686018427387904) → stP s (bothI a b)) := by
  unfold stP bL in64 at *
  unfold bothI
  obtain ⟨g1, g2, g3⟩ := h
  constructor
  · intro hs
    refine ⟨by omega, by omega, by omega, ?_⟩
    rw [if_neg (by omega)] at g3
    split <;> split <;> omega
  · intro hs
    refine ⟨g1, g2, ?_⟩
    split at g3 <;> split <;> (try split) <;> omega
end Go.Proofs.YtmickbidffdklaaDoor

namespace Go.Proofs.YtmickbidffdklaaDoor
open Go Go.VM

abbrev TV : Ty := .st [(1, .int .i64), (1, .int .i64), (1, .int .i64)]
abbrev TCt : Ty := .st [(1, .str), (3, TV), (3, TV), (3, .arr 3 1 .bool)]
abbrev TPd : Ty := .st [(1, .str), (1, .int .i64), (1, .int .i64), (1, .sl 10 TCt)]
theorem dec_str (s : ByteArray) : ∃ l : List UInt8, PV.str s = sv l ∧ l.length = s.size := ⟨s.data.toList, rfl, rfl⟩
theorem dec_v {cs : List PV} (h : HasTy TV cs) : ∃ v, cs = vc v := by
  obtain ⟨_, _, rfl, _, ⟨a, rfl, _⟩, _, _, rfl, _, ⟨b, rfl, _⟩, _, _, rfl, _, ⟨c, rfl, _⟩, rfl⟩ := h
  exact ⟨⟨a, b, c⟩, rfl⟩
theorem dec_ct {cs : List PV} (h : HasTy TCt cs) : ∃ c, cs = ct c ∧ c.name.length ≤ maxLen := by
  obtain ⟨_, _, rfl, _, ⟨s, rfl, hs⟩, _, _, rfl, _, hv, _, _, rfl, _, hw, _, _, rfl, _, ⟨_, _, rfl, _, ⟨a, rfl⟩, _, _, rfl, _, ⟨b, rfl⟩, _, _, rfl, _, ⟨c, rfl⟩, rfl⟩, rfl⟩ := h
  obtain ⟨v, rfl⟩ := dec_v hv
  obtain ⟨w, rfl⟩ := dec_v hw
  obtain ⟨l, h1, h2⟩ := dec_str s
  rw [h1]
  exact ⟨⟨l, v, w, a, b, c⟩, rfl, by show l.length ≤ _; omega⟩
theorem els_dec {α : Type} {f : α → List PV} {P : α → Prop} {T : Ty} {es : Nat} (hd : ∀ cs, HasTy T cs → ∃ a, cs = f a ∧ P a) : ∀ (n : Nat) (cs : List PV), Els (HasTy T) es n cs → ∃ l : List α, l.length = n ∧ cs = flat f l ∧ ∀ a ∈ l, P a := by
  intro n
  induction n with
  | zero => intro cs h; exact ⟨[], rfl, h, fun a ha => by cases ha⟩
  | succ n ih =>
    intro cs h
    obtain ⟨x, y, rfl, _, h1, h2⟩ := h
    obtain ⟨a, rfl, ha⟩ := hd _ h1
    obtain ⟨l, rfl, rfl, hl⟩ := ih _ h2
    refine ⟨a :: l, rfl, by simp [flat], fun b hb => ?_⟩
    rcases List.mem_cons.1 hb with rfl | hb
    · exact ha
    · exact hl b hb
theorem arg_ct {p : PV} (h : HasArg TCt p) : ∃ c, p = .agg (ct c) ∧ c.name.length ≤ maxLen := by
  obtain ⟨ps, rfl, h⟩ := h
  obtain ⟨c, rfl, hc⟩ := dec_ct h
  exact ⟨c, rfl, hc⟩
theorem arg_pd {p : PV} (h : HasArg TPd p) : ∃ q x, p = .agg (pdc q x) ∧ small q := by
  obtain ⟨ps, rfl, _, _, rfl, _, ⟨s, rfl, hs⟩, _, _, rfl, _, ⟨a, rfl, _⟩, _, _, rfl, _, ⟨b, rfl, _⟩, _, _, rfl, _, ⟨x, n, cells, rfl, _, hn, he⟩, rfl⟩ := h
  obtain ⟨l, h1, h2⟩ := dec_str s
  obtain ⟨cs, rfl, rfl, hc⟩ := els_dec (fun _ h => dec_ct h) n cells he
  rw [h1]
  exact ⟨⟨l, a, b, cs⟩, x, rfl, by show l.length ≤ _; omega, hn, hc⟩
set_option maxRecDepth 20000 in
set_option maxHeartbeats 4000000 in
theorem hold_law (ps : List PV) (h : HasArgs [TPd] ps) : ∃ H', EE env (.fn 5) (ps.map .pv) [] = some (.pv (.bool true), H') := by
  obtain ⟨p1, _, rfl, h1, rfl⟩ := h
  obtain ⟨p, x, rfl, hs⟩ := arg_pd h1
  obtain ⟨n, hg, hn⟩ := great_ok x p hs
  refine law_end (EE_has (fn_has rfl ?_))
  refine seq_on [(1, .ptr 0 0), (2, .pv (.bool false))] [.pcells (pdc p x)] (by (refine Has.intro ⟨rfl, ?_, rfl⟩; (repeat (first | exact trivial | refine ⟨rfl, ?_⟩)))) (fun r => ?_)
  refine seq_on [(1, .ptr 0 0), (2, .pv (.bool false))] [.pcells (pdc p x)] (by refine callPK_has first_ok ?_; (refine Has.intro ⟨rfl, ?_, rfl⟩; (repeat (first | exact trivial | refine ⟨rfl, ?_⟩)))) (fun r => ?_)
  by_cases hn2 : n > 2000
  · refine hgetK_has (.pcells (pdc p x)) rfl ?_
    refine secK_has (v := pdc p x) rfl (of_decide_eq_true rfl) ?_
    refine callPK_has hg ?_
    refine boolK_dec_t hn2 ?_
    exact Has.intro rfl
  refine seq_on [(1, .ptr 0 0), (2, .pv (.bool false))] [.pcells (pdc p x)] ?_ (fun r => ?_)
  · refine hgetK_has (.pcells (pdc p x)) rfl ?_
    refine secK_has (v := pdc p x) rfl (of_decide_eq_true rfl) ?_
    refine callPK_has hg ?_
    refine boolK_dec_f hn2 ?_
    (refine Has.intro ⟨rfl, ?_, rfl⟩; (repeat (first | exact trivial | refine ⟨rfl, ?_⟩)))
  refine seq_on [(1, .ptr 0 0), (2, .pv (.bool false)), (3, .ptr 1 0), (4, .pv (.int .i64 0))] [.pcells (pdc p x), .pcells (kn (knP p))] ?_ (fun r => ?_)
  · refine hgetK_has (.pcells (pdc p x)) rfl ?_
    refine secK_has (v := pdc p x) rfl (of_decide_eq_true rfl) ?_
    refine callPK_has (kpod_ok x p hs) ?_
    refine hgetK_last ?_
    refine needK_has rfl ?_
    refine eqK_has_eq (kn (knP p)) rfl ?_
    (refine Has.intro ⟨rfl, ?_, rfl⟩; (repeat (first | exact trivial | refine ⟨rfl, ?_⟩)))
  by_cases hP : podP p
  rotate_left
  · refine hgetK_has (.pcells (pdc p x)) rfl ?_
    refine secK_has (v := pdc p x) rfl (of_decide_eq_true rfl) ?_
    refine callSK_has' ((rpod_ok _ p hs [HObj.pcells (pdc p x), HObj.pcells (kn (knP p))] (.inl ⟨x, rfl⟩)).mono fun y hy => ?_)
    obtain ⟨v, G⟩ := y
    obtain ⟨rfl, hK⟩ := hy
    have k1 : hget G 1 = .pcells (kn (knP p)) := hK.2 _ _ rfl ((by intro h; cases h)) ((fun _ _ h => by cases h))
    dsimp only at k1 ⊢
    rw [show decide (podP p) = false from decide_eq_false hP]
    have e : knP p = k0 := by unfold knP; rw [if_neg hP]
    rw [e] at k1
    refine hgetK_has _ k1 ?_
    refine secK_has (v := kn k0) rfl (of_decide_eq_true rfl) ?_
    refine bindK_has (kn_same k0) ?_
    refine boolK_has_true rfl ?_
    exact Has.intro rfl
  have hl6 : p.l.length ≤ 6 := hP.2.2.2.1.2
  refine seq_st (σ := Heap) (fun _ => [(1, .ptr 0 0), (2, .pv (.bool false)), (3, .ptr 1 0), (4, .pv (.int .i64 0))]) (fun s => s) (fun s => hget s 0 = .pcells (pdc p x) ∧ hget s 1 = .pcells (kn (knP p))) ?_ (fun G ⟨k0, k1⟩ r => ?_)
  · refine hgetK_has (.pcells (pdc p x)) rfl ?_
    refine secK_has (v := pdc p x) rfl (of_decide_eq_true rfl) ?_
    refine callSK_has' ((rpod_ok _ p hs [HObj.pcells (pdc p x), HObj.pcells (kn (knP p))] (.inl ⟨x, rfl⟩)).mono fun y hy => ?_)
    obtain ⟨v, G⟩ := y
    obtain ⟨rfl, hK⟩ := hy
    have k0 : hget G 0 = .pcells (pdc p x) := hK.2 _ _ rfl ((by intro h; cases h)) ((fun _ _ h => by cases h))
    have k1 : hget G 1 = .pcells (kn (knP p)) := hK.2 _ _ rfl ((by intro h; cases h)) ((fun _ _ h => by cases h))
    dsimp only at k0 k1 ⊢
    rw [show decide (podP p) = true from decide_eq_true hP]
    exact Has.intro ⟨rfl, G, ⟨k0, k1⟩, ⟨rfl, rfl, rfl, rfl, trivial⟩, rfl⟩
  refine seq_st (σ := Heap × Int) (fun s => [(2, .pv (.bool false)), (3, .ptr 1 0), (4, .pv (.int .i64 s.2))]) (fun s => s.1) (fun s => hget s.1 1 = .pcells (kn (knP p)) ∧ stP s.2 (knP p).cm) ?_ (fun ⟨G, s⟩ ⟨k1, hS⟩ r => ?_)
  · refine hgetK_has _ k0 ?_
    refine getK_has rfl ?_
    refine loopK_has ?_
    refine iterE_loop (σ := Nat × Int × Heap) (fun s => p.l.length - s.1) (fun s => [(2, .pv (.bool false)), (3, .ptr 1 0), (4, .pv (.int .i64 s.2.1)), (22, .pv (.sl x p.l.length (flat ct p.l))), (23, .pv (.int .i64 p.l.length)), (24, .pv (.int .i64 s.1))]) (fun s => s.2.2)
      (fun s => s.1 ≤ p.l.length ∧ hget s.2.2 1 = .pcells (kn (knP p)) ∧ stP s.2.1 (foldK (p.l.take s.1)).cm) (fun ⟨i, s, G⟩ ⟨hi, k1, hS⟩ r => ?_) (0, 0, _) ⟨Nat.zero_le _, k1, stP_zero⟩ ⟨rfl, rfl, rfl, rfl, rfl, rfl, trivial⟩ rfl
    dsimp only at hi k1 hS ⊢
    refine boolK_dec (fun hc => ?_) (fun hc => ?_)
    · have hlt : i < p.l.length := by omega
      obtain ⟨c, hcg⟩ : ∃ c, p.l[i]? = some c := ⟨_, List.getElem?_eq_getElem hlt⟩
      obtain ⟨g1, g2⟩ := flat_get ct_len hcg
      have hcl : c.name.length ≤ maxLen := hs.2.2 c (List.mem_of_getElem? hcg)
      have hcP := podP_c hP hcg
      have hst := foldK_step hcg
      obtain ⟨t1, t2⟩ := stP_step hS (foldK_b hP i (by omega) (by omega)).1 (knC_b hcP).1 (by omega)
      have hst' : (foldK (p.l.take (i + 1))).cm = bothI (foldK (p.l.take i)).cm (knC c).cm := by rw [hst]; rfl
      obtain ⟨e1, e2, e3, e4⟩ := knP_below hP hcg
      have hr := knC_right hcP
      have hcU : (knC c).cm ≤ (4611686018427387904) := by have := hr.1; unfold sumP at this; omega
      refine needK_has (by (first | rfl | (simp; done) | (simp; omega))) ?_
      refine secK_has g1 g2 ?_
      refine hgetK_last ?_
      refine needK_has rfl ?_
      refine eqK_has_eq (ct c) rfl ?_
      have k5 := hget_hset_same (H := G ++ [HObj.pcells ([PV.str ⟨#[]⟩, PV.int IntKind.i64 0, PV.int IntKind.i64 0, PV.int IntKind.i64 0, PV.int IntKind.i64 0, PV.int IntKind.i64 0, PV.int IntKind.i64 0, PV.bool false, PV.bool false, PV.bool false])]) (id := G.length) (.pcells (ct c)) (by simp)
      have k1 := keep2 (.pcells ([PV.str ⟨#[]⟩, PV.int IntKind.i64 0, PV.int IntKind.i64 0, PV.int IntKind.i64 0, PV.int IntKind.i64 0, PV.int IntKind.i64 0, PV.int IntKind.i64 0, PV.bool false, PV.bool false, PV.bool false])) (.pcells (ct c)) k1 ((by intro h; cases h))
      generalize hset (G ++ [HObj.pcells ([PV.str ⟨#[]⟩, PV.int IntKind.i64 0, PV.int IntKind.i64 0, PV.int IntKind.i64 0, PV.int IntKind.i64 0, PV.int IntKind.i64 0, PV.int IntKind.i64 0, PV.bool false, PV.bool false, PV.bool false])]) G.length (.pcells (ct c)) = G1 at *
      generalize G.length = n5 at *
      refine hgetK_has _ k5 ?_
      refine secK_has (v := ct c) rfl (of_decide_eq_true rfl) ?_
      refine callPK_has (ctn_ok c hcl) ?_
      refine hgetK_last ?_
      refine needK_has rfl ?_
      refine eqK_has_eq (kn (knC c)) rfl ?_
      have k7 := hget_hset_same (H := G1 ++ [HObj.pcells ([PV.int IntKind.i64 0, PV.int IntKind.i64 0, PV.int IntKind.i64 0, PV.int IntKind.i64 0, PV.int IntKind.i64 0])]) (id := G1.length) (.pcells (kn (knC c))) (by simp)
      have k1 := keep2 (.pcells ([PV.int IntKind.i64 0, PV.int IntKind.i64 0, PV.int IntKind.i64 0, PV.int IntKind.i64 0, PV.int IntKind.i64 0])) (.pcells (kn (knC c))) k1 ((by intro h; cases h))
      generalize hset (G1 ++ [HObj.pcells ([PV.int IntKind.i64 0, PV.int IntKind.i64 0, PV.int IntKind.i64 0, PV.int IntKind.i64 0, PV.int IntKind.i64 0])]) G1.length (.pcells (kn (knC c))) = G2 at *
      generalize G1.length = n7 at *
      generalize knC c = C at *
      generalize knP p = K at *
      refine hgetK_has _ k7 ?_
      refine secK_has (v := kn C) rfl (of_decide_eq_true rfl) ?_
      refine callPK_dec_t (right_ok6 C) hr ?_
      refine hgetK_has _ k7 ?_
      refine getK_has rfl ?_
      refine hgetK_has _ k1 ?_
      refine getK_has rfl ?_
      refine boolK_dec_f (by omega) ?_
      refine hgetK_has _ k7 ?_
      refine getK_has rfl ?_
      refine hgetK_has _ k1 ?_
      refine getK_has rfl ?_
      refine boolK_dec_f (by omega) ?_
      refine hgetK_has _ k7 ?_
      refine getK_has rfl ?_
      refine hgetK_has _ k1 ?_
      refine getK_has rfl ?_
      refine boolK_dec_f (by omega) ?_
      refine hgetK_has _ k7 ?_
      refine getK_has rfl ?_
      refine hgetK_has _ k1 ?_
      refine getK_has rfl ?_
      refine boolK_dec_f (by omega) ?_
      refine boolK_dec (fun hu => ?_) (fun hu => ?_)
      · obtain ⟨u1, u2⟩ := t1 hu
        refine hgetK_has _ k7 ?_
        refine getK_has rfl ?_
        refine eqK_has_eq C.cm (by show (if (4611686018427387904) < C.cm then (4611686018427387904) else C.cm) = C.cm; rw [if_neg (by omega)]) ?_
        refine eqK_has_eq _ (wrap_i64 u1.1 u1.2) ?_
        refine eqK_has_eq _ (i64_succ (by omega)) ?_
        exact Has.intro ⟨(i + 1, s + C.cm, G2), ⟨hlt, k1, by dsimp only; rw [hst']; exact u2⟩, (by dsimp only; omega), ⟨rfl, rfl, rfl, rfl, rfl, rfl, trivial⟩, rfl⟩
      · refine eqK_has_eq _ (i64_succ (by omega)) ?_
        exact Has.intro ⟨(i + 1, s, G2), ⟨hlt, k1, by dsimp only; rw [hst']; exact t2 hu⟩, (by dsimp only; omega), ⟨rfl, rfl, rfl, rfl, rfl, rfl, trivial⟩, rfl⟩
    · obtain rfl : i = p.l.length := by omega
      rw [List.take_length] at hS
      have e : (knP p).cm = (foldK p.l).cm := by rw [knP_of hP]
      exact Has.intro (Has.intro ⟨rfl, (G, s), ⟨k1, by dsimp only; rw [e]; exact hS⟩, ⟨rfl, rfl, rfl, trivial⟩, rfl⟩)
  dsimp only at k1 hS ⊢
  refine hgetK_has _ k1 ?_
  refine secK_has (v := kn (knP p)) rfl (of_decide_eq_true rfl) ?_
  refine callPK_dec_t (right_ok6 _) (knP_right hP) ?_
  refine eqK_has_eq (if (4611686018427387904) < s then (4611686018427387904) else s) rfl ?_
  refine hgetK_has _ k1 ?_
  refine getK_has rfl ?_
  refine boolK_dec_t hS.2.2 ?_
  exact Has.intro rfl
end Go.Proofs.YtmickbidffdklaaDoor

namespace Go.Proofs.YtmickbidffdklaaDoor
open Go Go.VM

def noC (l : List Ct) : Bool := l.any fun c => c.lm.c == 0
def noM (l : List Ct) : Bool := l.any fun c => c.lm.m == 0
/-- The same with a weight. -/
def sW (u w : Vc) (zc zm : Bool) : Kn := ⟨if zc = true then (4611686018427387904) else w.c, wI u.c, u.m, if zm = true then (4611686018427387904) else w.m, w.h⟩
def sumK (u w : Vc) (zc zm : Bool) : Kn := ⟨if zc = true then (4611686018427387904) else w.c, 0, u.m, if zm = true then (4611686018427387904) else w.m, w.h⟩
theorem addV_is {a b s : Vc} (h : addV a b = some s) : s = vadd a b ∧ vR s := by
  refine ⟨?_, addV_R h⟩
  unfold addV at h; split at h
  · injection h with h; exact h.symm
  · cases h
theorem step_R {u w u' w' : Vc} {zc zm : Bool} {c : Ct} (hc : cP c) (hw : vR w) (h1 : addV u c.rq = some u') (h2 : addV w c.lm = some w') :
    accK (sumK u w zc zm) c = sumK u' w' (zc || c.lm.c == 0) (zm || c.lm.m == 0) := by
  obtain ⟨rfl, r1⟩ := addV_is h1
  obtain ⟨rfl, r2⟩ := addV_is h2
  unfold accK
  rw [knC_of hc]
  obtain ⟨_, h3, h4, _⟩ := hc
  unfold vR at hw h3 h4
  unfold sumK vadd bothI limI
  dsimp only
  have e1 : (if (if zc = true then (4611686018427387904) else w.c) = (4611686018427387904) ∨ (if c.lm.c = 0 then (4611686018427387904) else c.lm.c) = (4611686018427387904) then (4611686018427387904) else (if zc = true then (4611686018427387904) else w.c) + (if c.lm.c = 0 then (4611686018427387904) else c.lm.c)) = if (zc || c.lm.c == 0) = true then (4611686018427387904) else w.c + c.lm.c := by
    cases zc
    · by_cases h : c.lm.c = 0
      · simp [h]
      · simp [h]; omega
    · simp
  have e2 : (if (if zm = true then (4611686018427387904) else w.m) = (4611686018427387904) ∨ (if c.lm.m = 0 then (4611686018427387904) else c.lm.m) = (4611686018427387904) then (4611686018427387904) else (if zm = true then (4611686018427387904) else w.m) + (if c.lm.m = 0 then (4611686018427387904) else c.lm.m)) = if (zm || c.lm.m == 0) = true then (4611686018427387904) else w.m + c.lm.m := by
    cases zm
    · by_cases h : c.lm.m = 0
      · simp [h]
      · simp [h]; omega
    · simp
  rw [e1, e2]
theorem fold_R : ∀ (l : List Ct) (u w u' w' : Vc) (zc zm : Bool), (∀ c ∈ l, cP c) → vR w → sumF u (rqs l) = some u' → sumF w (lms l) = some w' → l.foldl accK (sumK u w zc zm) = sumK u' w' (zc || noC l) (zm || noM l)
  | [], u, w, u', w', zc, zm, _, _, h1, h2 => by
    cases h1; cases h2
    simp [noC, noM]
  | c :: l, u, w, u', w', zc, zm, hc, hw, h1, h2 => by
    unfold rqs at h1
    unfold lms at h2
    simp only [List.map_cons, sumF] at h1 h2
    cases a1 : addV u c.rq with
    | none => rw [a1] at h1; cases h1
    | some u1 =>
      cases a2 : addV w c.lm with
      | none => rw [a2] at h2; cases h2
      | some w1 =>
        rw [a1] at h1; rw [a2] at h2
        rw [List.foldl_cons, step_R (hc c (List.mem_cons_self ..)) hw a1 a2, fold_R l u1 w1 u' w' _ _ (fun d hd => hc d (List.mem_cons_of_mem _ hd)) (addV_R a2) h1 h2]
        simp [noC, noM, Bool.or_assoc]
theorem foldK_sum {p : Pd} (h : podP p) {u w : Vc} (h1 : sumV (rqs p.l) = some u) (h2 : sumV (lms p.l) = some w) : foldK p.l = sumK u w (noC p.l) (noM p.l) := by
  have := fold_R p.l v0 v0 u w false false (fun c hc => by
    obtain ⟨i, hi⟩ := List.getElem?_of_mem hc
    exact podP_c h hi) v0_R h1 h2
  simp only [Bool.false_or] at this
  exact this
theorem any_step {l : List Ct} {f : Ct → Bool} {i : Nat} {c : Ct} (h : l[i]? = some c) : (l.take (i + 1)).any f = ((l.take i).any f || f c) := by
  rw [List.take_add_one, h]; simp
set_option maxRecDepth 20000 in
set_option maxHeartbeats 4000000 in
theorem rkpod_ok (x : Ext) (p : Pd) (hs : small p) : EP (EE env) 13 [.agg (pdc p x)] = some (.agg (kn (knP p))) := by
  refine Has.eq (EP_has (fn_has rfl ?_))
  refine seq_on [(1, .ptr 0 0), (2, .ptr 1 0)] [.pcells (pdc p x), .pcells ([PV.int IntKind.i64 0, PV.int IntKind.i64 0, PV.int IntKind.i64 0, PV.int IntKind.i64 0, PV.int IntKind.i64 0])] (by (repeat (first | refine hgetK_last ?_ | refine hgetK_set ?_ | refine hgetK_has _ rfl ?_ | refine needK_has rfl ?_ | refine getK_has rfl ?_ | refine secK_has rfl (by first | exact Nat.le_refl _ | decide) ?_ | refine eqK_has ?_)); (refine Has.intro ⟨rfl, ?_, rfl⟩; (repeat (first | exact trivial | refine ⟨rfl, ?_⟩)))) (fun r => ?_)
  by_cases hP : podP p
  rotate_left
  · refine hgetK_has (.pcells (pdc p x)) rfl ?_
    refine secK_has (v := pdc p x) rfl (of_decide_eq_true rfl) ?_
    refine callSK_has' ((rpod_ok _ p hs [HObj.pcells (pdc p x), HObj.pcells ([PV.int IntKind.i64 0, PV.int IntKind.i64 0, PV.int IntKind.i64 0, PV.int IntKind.i64 0, PV.int IntKind.i64 0])] (.inl ⟨x, rfl⟩)).mono fun y hy => ?_)
    obtain ⟨v, G⟩ := y
    obtain ⟨rfl, hK⟩ := hy
    have k1 : hget G 1 = .pcells ([PV.int IntKind.i64 0, PV.int IntKind.i64 0, PV.int IntKind.i64 0, PV.int IntKind.i64 0, PV.int IntKind.i64 0]) := hK.2 _ _ rfl ((by intro h; cases h)) ((fun _ _ h => by cases h))
    have q1 := hget_lt k1 ((by intro h; cases h))
    dsimp only at k1 ⊢
    rw [show decide (podP p) = false from decide_eq_false hP]
    refine hgetK_has _ k1 ?_
    refine needK_has rfl ?_
    refine eqK_has_eq ([PV.int IntKind.i64 0, PV.int IntKind.i64 0, PV.int IntKind.i64 0, PV.int IntKind.i64 0, PV.int IntKind.i64 0]) rfl ?_
    refine hgetK_has _ (hget_hset_same _ q1) ?_
    refine secK_has rfl (of_decide_eq_true rfl) ?_
    refine Has.intro (Has.intro ?_)
    have e : knP p = k0 := by unfold knP; rw [if_neg hP]
    rw [e]; rfl
  have hl6 : p.l.length ≤ 6 := hP.2.2.2.1.2
  obtain ⟨u, hu⟩ := Option.isSome_iff_exists.1 hP.2.2.2.2.2.1
  obtain ⟨w, hw⟩ := Option.isSome_iff_exists.1 hP.2.2.2.2.2.2
  have hsum := foldK_sum hP hu hw
  have hur : in64 u.c := by
    have := sumV_R (rqs p.l); rw [hu] at this
    have := this.1
    unfold in64
    show -9223372036854775808 ≤ u.c ∧ u.c ≤ 9223372036854775807
    simp only [Option.getD_some] at this
    omega
  have e : knP p = sW u w (noC p.l) (noM p.l) := by rw [knP_of hP, hsum, hu]; rfl
  have hs3 : sum3 p.l = .tup [.agg (vc u), .agg (vc w), .bool true] := by unfold sum3; rw [hu, hw]; rfl
  refine seq_st (σ := Heap) (fun _ => [(1, .ptr 0 0), (2, .ptr 1 0)]) (fun s => s) (fun s => hget s 0 = .pcells (pdc p x) ∧ hget s 1 = .pcells ([PV.int IntKind.i64 0, PV.int IntKind.i64 0, PV.int IntKind.i64 0, PV.int IntKind.i64 0, PV.int IntKind.i64 0])) ?_ (fun G ⟨k0, k1⟩ r => ?_)
  · refine hgetK_has (.pcells (pdc p x)) rfl ?_
    refine secK_has (v := pdc p x) rfl (of_decide_eq_true rfl) ?_
    refine callSK_has' ((rpod_ok _ p hs [HObj.pcells (pdc p x), HObj.pcells ([PV.int IntKind.i64 0, PV.int IntKind.i64 0, PV.int IntKind.i64 0, PV.int IntKind.i64 0, PV.int IntKind.i64 0])] (.inl ⟨x, rfl⟩)).mono fun y hy => ?_)
    obtain ⟨v, G⟩ := y
    obtain ⟨rfl, hK⟩ := hy
    have k0 : hget G 0 = .pcells (pdc p x) := hK.2 _ _ rfl ((by intro h; cases h)) ((fun _ _ h => by cases h))
    have k1 : hget G 1 = .pcells ([PV.int IntKind.i64 0, PV.int IntKind.i64 0, PV.int IntKind.i64 0, PV.int IntKind.i64 0, PV.int IntKind.i64 0]) := hK.2 _ _ rfl ((by intro h; cases h)) ((fun _ _ h => by cases h))
    dsimp only at k0 k1 ⊢
    rw [show decide (podP p) = true from decide_eq_true hP]
    exact Has.intro ⟨rfl, G, ⟨k0, k1⟩, ⟨rfl, rfl, trivial⟩, rfl⟩
  refine seq_st (σ := Heap × Nat × Nat) (fun s => [(1, .ptr 0 0), (2, .ptr 1 0), (3, .ptr s.2.1 0), (4, .ptr s.2.2 0)]) (fun s => s.1) (fun s => hget s.1 0 = .pcells (pdc p x) ∧ hget s.1 1 = .pcells ([PV.int IntKind.i64 0, PV.int IntKind.i64 0, PV.int IntKind.i64 0, PV.int IntKind.i64 0, PV.int IntKind.i64 0]) ∧ hget s.1 s.2.1 = .pcells (vc u) ∧ hget s.1 s.2.2 = .pcells (vc w)) ?_ (fun ⟨G, n3, n4⟩ ⟨k0, k1, k3, k4⟩ r => ?_)
  · refine hgetK_has _ k0 ?_
    refine secK_has (v := pdc p x) rfl (of_decide_eq_true rfl) ?_
    refine callSK_has' ((rsums_ok _ p (by omega) G (.inl ⟨x, rfl⟩)).mono fun y hy => ?_)
    obtain ⟨v, G1⟩ := y
    obtain ⟨rfl, hK⟩ := hy
    have k0 : hget G1 0 = .pcells (pdc p x) := hK.2 _ _ k0 ((by intro h; cases h)) ((fun _ _ h => by cases h))
    have k1 : hget G1 1 = .pcells ([PV.int IntKind.i64 0, PV.int IntKind.i64 0, PV.int IntKind.i64 0, PV.int IntKind.i64 0, PV.int IntKind.i64 0]) := hK.2 _ _ k1 ((by intro h; cases h)) ((fun _ _ h => by cases h))
    dsimp only at k0 k1 ⊢
    rw [hs3]
    have q0 := hget_lt k0 ((by intro h; cases h))
    have q1 := hget_lt k1 ((by intro h; cases h))
    have q0' : 0 < (G1 ++ [HObj.pcells ([PV.int IntKind.i64 0, PV.int IntKind.i64 0, PV.int IntKind.i64 0])]).length := by simp
    have q1' : 1 < (G1 ++ [HObj.pcells ([PV.int IntKind.i64 0, PV.int IntKind.i64 0, PV.int IntKind.i64 0])]).length := by rw [List.length_append]; omega
    have a0 := (hget_app [HObj.pcells ([PV.int IntKind.i64 0, PV.int IntKind.i64 0, PV.int IntKind.i64 0])] q0').trans ((hget_app [HObj.pcells ([PV.int IntKind.i64 0, PV.int IntKind.i64 0, PV.int IntKind.i64 0])] q0).trans k0)
    have a1 := (hget_app [HObj.pcells ([PV.int IntKind.i64 0, PV.int IntKind.i64 0, PV.int IntKind.i64 0])] q1').trans ((hget_app [HObj.pcells ([PV.int IntKind.i64 0, PV.int IntKind.i64 0, PV.int IntKind.i64 0])] q1).trans k1)
    have a3 : hget ((G1 ++ [HObj.pcells ([PV.int IntKind.i64 0, PV.int IntKind.i64 0, PV.int IntKind.i64 0])]) ++ [HObj.pcells ([PV.int IntKind.i64 0, PV.int IntKind.i64 0, PV.int IntKind.i64 0])]) G1.length = .pcells ([PV.int IntKind.i64 0, PV.int IntKind.i64 0, PV.int IntKind.i64 0]) := (hget_app _ (by simp)).trans (hget_append_same G1 _)
    have a4 : hget ((G1 ++ [HObj.pcells ([PV.int IntKind.i64 0, PV.int IntKind.i64 0, PV.int IntKind.i64 0])]) ++ [HObj.pcells ([PV.int IntKind.i64 0, PV.int IntKind.i64 0, PV.int IntKind.i64 0])]) (G1 ++ [HObj.pcells ([PV.int IntKind.i64 0, PV.int IntKind.i64 0, PV.int IntKind.i64 0])]).length = .pcells ([PV.int IntKind.i64 0, PV.int IntKind.i64 0, PV.int IntKind.i64 0]) := hget_append_same _ _
    have h34 : G1.length ≠ (G1 ++ [HObj.pcells ([PV.int IntKind.i64 0, PV.int IntKind.i64 0, PV.int IntKind.i64 0])]).length := by simp
    have h30 : 0 ≠ G1.length := by omega
    have h31 : 1 ≠ G1.length := by omega
    have h40 : 0 ≠ (G1 ++ [HObj.pcells ([PV.int IntKind.i64 0, PV.int IntKind.i64 0, PV.int IntKind.i64 0])]).length := by omega
    have h41 : 1 ≠ (G1 ++ [HObj.pcells ([PV.int IntKind.i64 0, PV.int IntKind.i64 0, PV.int IntKind.i64 0])]).length := by omega
    have l3 := hget_lt a3 ((by intro h; cases h))
    have a4' := hk_set (o' := .pcells (vc u)) a4 (Ne.symm h34)
    have l4 := hget_lt a4' ((by intro h; cases h))
    clear hK q0 q1 q0' q1' k0 k1
    refine forceK_has ?_
    refine hgetK_has _ a3 ?_
    refine needK_has rfl ?_
    refine eqK_has_eq (vc u) rfl ?_
    refine hgetK_has _ a4' ?_
    refine needK_has rfl ?_
    refine eqK_has_eq (vc w) rfl ?_
    refine Has.intro ⟨rfl, (_, G1.length, (G1 ++ [HObj.pcells ([PV.int IntKind.i64 0, PV.int IntKind.i64 0, PV.int IntKind.i64 0])]).length), ⟨?_, ?_, ?_, ?_⟩, ⟨rfl, rfl, rfl, rfl, trivial⟩, rfl⟩
    · exact hk_set (hk_set a0 h30) h40
    · exact hk_set (hk_set a1 h31) h41
    · exact hk_set (hget_hset_same _ l3) h34
    · exact hget_hset_same _ l4
  dsimp only at k0 k1 k3 k4 ⊢
  have q0 := hget_lt k0 ((by intro h; cases h))
  have q1 := hget_lt k1 ((by intro h; cases h))
  have q3 := hget_lt k3 ((by intro h; cases h))
  have q4 := hget_lt k4 ((by intro h; cases h))
  have j6 := hget_append_same G (HObj.pcells ([PV.int IntKind.i64 0, PV.int IntKind.i64 0, PV.int IntKind.i64 0, PV.int IntKind.i64 0, PV.int IntKind.i64 0]))
  have j0 := (hget_app [HObj.pcells ([PV.int IntKind.i64 0, PV.int IntKind.i64 0, PV.int IntKind.i64 0, PV.int IntKind.i64 0, PV.int IntKind.i64 0])] q0).trans k0
  have j1 := (hget_app [HObj.pcells ([PV.int IntKind.i64 0, PV.int IntKind.i64 0, PV.int IntKind.i64 0, PV.int IntKind.i64 0, PV.int IntKind.i64 0])] q1).trans k1
  have j3 := (hget_app [HObj.pcells ([PV.int IntKind.i64 0, PV.int IntKind.i64 0, PV.int IntKind.i64 0, PV.int IntKind.i64 0, PV.int IntKind.i64 0])] q3).trans k3
  have j4 := (hget_app [HObj.pcells ([PV.int IntKind.i64 0, PV.int IntKind.i64 0, PV.int IntKind.i64 0, PV.int IntKind.i64 0, PV.int IntKind.i64 0])] q4).trans k4
  have h60 : 0 ≠ G.length := by omega
  have h61 : 1 ≠ G.length := by omega
  have l6 := hget_lt j6 ((by intro h; cases h))
  refine seq_st (σ := Heap) (fun _ => [(1, .ptr 0 0), (2, .ptr 1 0), (6, .ptr G.length 0)]) (fun s => s) (fun s => hget s 0 = .pcells (pdc p x) ∧ hget s 1 = .pcells ([PV.int IntKind.i64 0, PV.int IntKind.i64 0, PV.int IntKind.i64 0, PV.int IntKind.i64 0, PV.int IntKind.i64 0]) ∧ hget s G.length = .pcells (kn ⟨w.c, wI u.c, u.m, w.m, w.h⟩)) ?_ (fun G' ⟨k0, k1, k6⟩ r => ?_)
  · refine hgetK_has _ j4 ?_
    refine getK_has rfl ?_
    refine hgetK_has _ j3 ?_
    refine getK_has rfl ?_
    refine callPK_has (rweight_ok _ hur) ?_
    refine hgetK_has _ j3 ?_
    refine getK_has rfl ?_
    refine hgetK_has _ j4 ?_
    refine getK_has rfl ?_
    refine hgetK_has _ j4 ?_
    refine getK_has rfl ?_
    refine hgetK_has _ j6 ?_
    refine needK_has rfl ?_
    refine eqK_has_eq (kn ⟨w.c, wI u.c, u.m, w.m, w.h⟩) rfl ?_
    refine Has.intro ⟨rfl, _, ⟨?_, ?_, ?_⟩, ⟨rfl, rfl, rfl, trivial⟩, rfl⟩
    · exact hk_set j0 h60
    · exact hk_set j1 h61
    · exact hget_hset_same _ l6
  generalize G.length = n6 at *
  clear j0 j1 j3 j4 j6 q0 q1 q3 q4 k3 k4 l6
  refine seq_st (σ := Heap) (fun _ => [(2, .ptr 1 0), (6, .ptr n6 0)]) (fun s => s) (fun s => hget s 1 = .pcells ([PV.int IntKind.i64 0, PV.int IntKind.i64 0, PV.int IntKind.i64 0, PV.int IntKind.i64 0, PV.int IntKind.i64 0]) ∧ hget s n6 = .pcells (kn (knP p))) ?_ (fun G ⟨k1, k6⟩ r => ?_)
  · refine hgetK_has _ k0 ?_
    refine getK_has rfl ?_
    refine loopK_has ?_
    refine iterE_loop (σ := Nat × Heap) (fun s => p.l.length - s.1) (fun s => [(2, .ptr 1 0), (6, .ptr n6 0), (32, .pv (.sl x p.l.length (flat ct p.l))), (33, .pv (.int .i64 p.l.length)), (34, .pv (.int .i64 s.1))]) (fun s => s.2)
      (fun s => s.1 ≤ p.l.length ∧ hget s.2 1 = .pcells ([PV.int IntKind.i64 0, PV.int IntKind.i64 0, PV.int IntKind.i64 0, PV.int IntKind.i64 0, PV.int IntKind.i64 0]) ∧ hget s.2 n6 = .pcells (kn (sW u w (noC (p.l.take s.1)) (noM (p.l.take s.1))))) (fun ⟨i, G⟩ ⟨hi, k1, k6⟩ r => ?_) (0, _) ⟨Nat.zero_le _, k1, k6⟩ ⟨rfl, rfl, rfl, rfl, rfl, trivial⟩ rfl
    dsimp only at hi k1 k6 ⊢
    refine boolK_dec (fun hc => ?_) (fun hc => ?_)
    · have hlt : i < p.l.length := by omega
      obtain ⟨c, hcg⟩ : ∃ c, p.l[i]? = some c := ⟨_, List.getElem?_eq_getElem hlt⟩
      obtain ⟨g1, g2⟩ := flat_get ct_len hcg
      have hzc : noC (p.l.take (i + 1)) = (noC (p.l.take i) || c.lm.c == 0) := any_step hcg
      have hzm : noM (p.l.take (i + 1)) = (noM (p.l.take i) || c.lm.m == 0) := any_step hcg
      refine needK_has (by (first | rfl | (simp; done) | (simp; omega))) ?_
      refine secK_has g1 g2 ?_
      refine hgetK_last ?_
      refine needK_has rfl ?_
      refine eqK_has_eq (ct c) rfl ?_
      have k8 := hget_hset_same (H := G ++ [HObj.pcells ([PV.str ⟨#[]⟩, PV.int IntKind.i64 0, PV.int IntKind.i64 0, PV.int IntKind.i64 0, PV.int IntKind.i64 0, PV.int IntKind.i64 0, PV.int IntKind.i64 0, PV.bool false, PV.bool false, PV.bool false])]) (id := G.length) (.pcells (ct c)) (by simp)
      have k1 := keep2 (.pcells ([PV.str ⟨#[]⟩, PV.int IntKind.i64 0, PV.int IntKind.i64 0, PV.int IntKind.i64 0, PV.int IntKind.i64 0, PV.int IntKind.i64 0, PV.int IntKind.i64 0, PV.bool false, PV.bool false, PV.bool false])) (.pcells (ct c)) k1 ((by intro h; cases h))
      have q6 : n6 ≠ G.length := Nat.ne_of_lt (hget_lt k6 ((by intro h; cases h)))
      have k6 := keep2 (.pcells ([PV.str ⟨#[]⟩, PV.int IntKind.i64 0, PV.int IntKind.i64 0, PV.int IntKind.i64 0, PV.int IntKind.i64 0, PV.int IntKind.i64 0, PV.int IntKind.i64 0, PV.bool false, PV.bool false, PV.bool false])) (.pcells (ct c)) k6 ((by intro h; cases h))
      generalize hset (G ++ [HObj.pcells ([PV.str ⟨#[]⟩, PV.int IntKind.i64 0, PV.int IntKind.i64 0, PV.int IntKind.i64 0, PV.int IntKind.i64 0, PV.int IntKind.i64 0, PV.int IntKind.i64 0, PV.bool false, PV.bool false, PV.bool false])]) G.length (.pcells (ct c)) = G1 at *
      generalize G.length = n8 at *
      generalize noC (p.l.take i) = zc at *
      generalize noM (p.l.take i) = zm at *
      have q7 := hget_lt k6 ((by intro h; cases h))
      refine hgetK_has _ k8 ?_
      refine getK_has rfl ?_
      refine boolK_beq (fun hz => ?_) (fun hz => ?_)
      · have hzc' : noC (p.l.take (i + 1)) = true := by rw [hzc, hz]; simp
        refine callPK_has (rlimit_ok 0) ?_
        refine hgetK_has _ k6 ?_
        refine needK_has rfl ?_
        refine eqK_has_eq (kn (sW u w true zm)) rfl ?_
        have k1 := hk_set (o' := .pcells (kn (sW u w true zm))) k1 h61
        have k8 := hk_set (o' := .pcells (kn (sW u w true zm))) k8 (Ne.symm q6)
        have k6 := hget_hset_same (.pcells (kn (sW u w true zm))) q7
        generalize hset G1 n6 (.pcells (kn (sW u w true zm))) = G2 at *
        have q7 := hget_lt k6 ((by intro h; cases h))
        refine hgetK_has _ k8 ?_
        refine getK_has rfl ?_
        refine boolK_beq (fun hm => ?_) (fun hm => ?_)
        · have hzm' : noM (p.l.take (i + 1)) = true := by rw [hzm, hm]; simp
          refine callPK_has (rlimit_ok 0) ?_
          refine hgetK_has _ k6 ?_
          refine needK_has rfl ?_
          refine eqK_has_eq (kn (sW u w true true)) rfl ?_
          have k1 := hk_set (o' := .pcells (kn (sW u w true true))) k1 h61
          have k8 := hk_set (o' := .pcells (kn (sW u w true true))) k8 (Ne.symm q6)
          have k6 := hget_hset_same (.pcells (kn (sW u w true true))) q7
          generalize hset G2 n6 (.pcells (kn (sW u w true true))) = G9 at *
          have q7 := hget_lt k6 ((by intro h; cases h))
          refine eqK_has_eq _ (i64_succ (by omega)) ?_
          refine Has.intro ⟨(i + 1, G9), ⟨hlt, k1, ?_⟩, (by dsimp only; omega), ⟨rfl, rfl, rfl, rfl, rfl, trivial⟩, rfl⟩
          dsimp only
          rw [hzc', hzm']; exact k6
        · have hzm' : noM (p.l.take (i + 1)) = zm := by rw [hzm]; simp [hm]
          refine eqK_has_eq _ (i64_succ (by omega)) ?_
          refine Has.intro ⟨(i + 1, G2), ⟨hlt, k1, ?_⟩, (by dsimp only; omega), ⟨rfl, rfl, rfl, rfl, rfl, trivial⟩, rfl⟩
          dsimp only
          rw [hzc', hzm']; exact k6
      · have hzc' : noC (p.l.take (i + 1)) = zc := by rw [hzc]; simp [hz]
        refine hgetK_has _ k8 ?_
        refine getK_has rfl ?_
        refine boolK_beq (fun hm => ?_) (fun hm => ?_)
        · have hzm' : noM (p.l.take (i + 1)) = true := by rw [hzm, hm]; simp
          refine callPK_has (rlimit_ok 0) ?_
          refine hgetK_has _ k6 ?_
          refine needK_has rfl ?_
          refine eqK_has_eq (kn (sW u w zc true)) rfl ?_
          have k1 := hk_set (o' := .pcells (kn (sW u w zc true))) k1 h61
          have k8 := hk_set (o' := .pcells (kn (sW u w zc true))) k8 (Ne.symm q6)
          have k6 := hget_hset_same (.pcells (kn (sW u w zc true))) q7
          generalize hset G1 n6 (.pcells (kn (sW u w zc true))) = G9 at *
          have q7 := hget_lt k6 ((by intro h; cases h))
          refine eqK_has_eq _ (i64_succ (by omega)) ?_
          refine Has.intro ⟨(i + 1, G9), ⟨hlt, k1, ?_⟩, (by dsimp only; omega), ⟨rfl, rfl, rfl, rfl, rfl, trivial⟩, rfl⟩
          dsimp only
          rw [hzc', hzm']; exact k6
        · have hzm' : noM (p.l.take (i + 1)) = zm := by rw [hzm]; simp [hm]
          refine eqK_has_eq _ (i64_succ (by omega)) ?_
          refine Has.intro ⟨(i + 1, G1), ⟨hlt, k1, ?_⟩, (by dsimp only; omega), ⟨rfl, rfl, rfl, rfl, rfl, trivial⟩, rfl⟩
          dsimp only
          rw [hzc', hzm']; exact k6
    · obtain rfl : i = p.l.length := by omega
      rw [List.take_length] at k6
      rw [← e] at k6
      exact Has.intro (Has.intro ⟨rfl, G, ⟨k1, k6⟩, ⟨rfl, rfl, trivial⟩, rfl⟩)
  refine hgetK_has _ k6 ?_
  refine secK_has (v := kn (knP p)) rfl (of_decide_eq_true rfl) ?_
  have q1 := hget_lt k1 ((by intro h; cases h))
  refine hgetK_has _ k1 ?_
  refine needK_has rfl ?_
  refine eqK_has_eq (kn (knP p)) rfl ?_
  refine hgetK_has _ (hget_hset_same _ q1) ?_
  refine secK_has (v := kn (knP p)) rfl (of_decide_eq_true rfl) ?_
  exact Has.intro (Has.intro rfl)
end Go.Proofs.YtmickbidffdklaaDoor

namespace Go.Proofs.YtmickbidffdklaaDoor
open Go Go.VM

set_option maxRecDepth 20000 in
set_option maxHeartbeats 4000000 in
theorem of_law (ps : List PV) (h : HasArgs [TCt, TPd] ps) : ∃ H', EE env (.fn 3) (ps.map .pv) [] = some (.pv (.bool true), H') := by
  obtain ⟨p1, _, rfl, h1, p2, _, rfl, h2, rfl⟩ := h
  obtain ⟨c, rfl, hc⟩ := arg_ct h1
  obtain ⟨p, x, rfl, hs⟩ := arg_pd h2
  obtain ⟨n, hg, hn⟩ := great_ok x p hs
  refine law_end (EE_has (fn_has rfl ?_))
  refine seq_on [(2, .ptr 0 0), (3, .ptr 1 0), (4, .pv (.bool false))] [.pcells (ct c), .pcells (pdc p x)] (by (refine Has.intro ⟨rfl, ?_, rfl⟩; (repeat (first | exact trivial | refine ⟨rfl, ?_⟩)))) (fun r => ?_)
  refine seq_on [(2, .ptr 0 0), (3, .ptr 1 0), (4, .pv (.bool false))] [.pcells (ct c), .pcells (pdc p x)] (by refine callPK_has first_ok ?_; (refine Has.intro ⟨rfl, ?_, rfl⟩; (repeat (first | exact trivial | refine ⟨rfl, ?_⟩)))) (fun r => ?_)
  by_cases ha : (((⟨c.name.toArray⟩ : ByteArray).size : Nat) : Int) > 300
  · refine hgetK_has (.pcells (ct c)) rfl ?_
    refine getK_has rfl ?_
    refine boolK_dec_t ha ?_
    exact Has.intro rfl
  by_cases hb : n > 2000
  · refine hgetK_has (.pcells (ct c)) rfl ?_
    refine getK_has rfl ?_
    refine boolK_dec_f ha ?_
    (refine hgetK_has (.pcells (pdc p x)) rfl ?_; refine secK_has (v := pdc p x) rfl (of_decide_eq_true rfl) ?_)
    refine callPK_has hg ?_
    refine boolK_dec_t hb ?_
    exact Has.intro rfl
  refine seq_on [(2, .ptr 0 0), (3, .ptr 1 0), (4, .pv (.bool false))] [.pcells (ct c), .pcells (pdc p x)] ?_ (fun r => ?_)
  · refine hgetK_has (.pcells (ct c)) rfl ?_
    refine getK_has rfl ?_
    refine boolK_dec_f ha ?_
    (refine hgetK_has (.pcells (pdc p x)) rfl ?_; refine secK_has (v := pdc p x) rfl (of_decide_eq_true rfl) ?_)
    refine callPK_has hg ?_
    refine boolK_dec_f hb ?_
    (refine Has.intro ⟨rfl, ?_, rfl⟩; (repeat (first | exact trivial | refine ⟨rfl, ?_⟩)))
  (refine hgetK_has (.pcells (ct c)) rfl ?_; refine secK_has (v := ct c) rfl (of_decide_eq_true rfl) ?_)
  refine callPK_has (ctn_ok c hc) ?_
  (refine hgetK_has (.pcells (ct c)) rfl ?_; refine secK_has (v := ct c) rfl (of_decide_eq_true rfl) ?_)
  refine callPK_has (rctn_ok c hc) ?_
  refine bindK_has (kn_same _) ?_
  refine boolK_has_true rfl ?_
  (refine hgetK_has (.pcells (pdc p x)) rfl ?_; refine secK_has (v := pdc p x) rfl (of_decide_eq_true rfl) ?_)
  refine callPK_has (kpod_ok x p hs) ?_
  (refine hgetK_has (.pcells (pdc p x)) rfl ?_; refine secK_has (v := pdc p x) rfl (of_decide_eq_true rfl) ?_)
  refine callPK_has (rkpod_ok x p hs) ?_
  refine bindK_has (kn_same _) ?_
  refine boolK_has_true rfl ?_
  refine callPK_has root_ok ?_
  refine bindK_has (kn_same ⟨(4611686018427387904), 100, (4611686018427387904), (4611686018427387904), (4611686018427387904)⟩) ?_
  refine boolK_has_true rfl ?_
  exact Has.intro rfl
end Go.Proofs.YtmickbidffdklaaDoor

namespace Go.Proofs.YtmickbidffdklaaDoor
open Go Go.VM

theorem u64_tmod (a b : Nat) : ((a : Nat) : Int).tmod ((b : Nat) : Int) = ((a % b : Nat) : Int) := rfl
theorem u64_tdiv (a b : Nat) (h : a < 18446744073709551616) : IntKind.u64.wrap (((a : Nat) : Int).tdiv ((b : Nat) : Int)) = ((a / b : Nat) : Int) := by
  show IntKind.u64.wrap ((a / b : Nat) : Int) = _
  exact u64_nat (Nat.lt_of_le_of_lt (Nat.div_le_self _ _) h)

/-- A loop's first digits are the one's, the others the other one's. -/
def mix (i : Nat) (f g : Nat → Nat) : Nat → Nat := fun j => if j < i then f j else g j
theorem mix_at {i : Nat} {f g : Nat → Nat} : mix i f g i = g i := if_neg (Nat.lt_irrefl i)
theorem mix_set (n i : Nat) (f g : Nat → Nat) : (tab n (dpv (mix i f g))).set i (.int .u64 ((f i : Nat) : Int)) = tab n (dpv (mix (i + 1) f g)) := by
  refine tab_set_eq ?_ fun j _ hj => ?_
  · show PV.int .u64 ((mix (i + 1) f g i : Nat) : Int) = _
    unfold mix; rw [if_pos (by omega)]
  · show PV.int .u64 ((mix i f g j : Nat) : Int) = .int .u64 ((mix (i + 1) f g j : Nat) : Int)
    unfold mix
    by_cases h : j < i
    · rw [if_pos h, if_pos (by omega)]
    · rw [if_neg h, if_neg (by omega)]
theorem mix_full (n : Nat) (f g : Nat → Nat) : tab n (dpv (mix n f g)) = tab n (dpv f) :=
  tab_congr fun j hj => by show PV.int .u64 ((mix n f g j : Nat) : Int) = _; unfold mix; rw [if_pos hj]; rfl
theorem mix_none (n : Nat) (f g : Nat → Nat) : tab n (dpv (mix 0 f g)) = tab n (dpv g) :=
  tab_congr fun j _ => by show PV.int .u64 ((mix 0 f g j : Nat) : Int) = _; unfold mix; rw [if_neg (by omega)]; rfl
theorem dzero : (List.replicate 20 (PV.int .u64 0)) = dc 0 := by
  unfold dc
  have : tab 20 (dpv (dgt 0)) = tab 20 (fun _ => PV.int .u64 0) := tab_congr fun j _ => by
    show PV.int .u64 ((dgt 0 j : Nat) : Int) = _
    have : dgt 0 j = 0 := by unfold dgt sh; simp
    rw [this]; rfl
  rw [this]; rfl

theorem plus_ok (a b : Nat) : EP (EE env) 53 [.agg (dc a), .agg (dc b)] = some (.agg (dc (a + b))) := by
  refine Has.eq (EP_has ?_)
  refine loopK_has ?_
  refine iterE_up 20 (fun i => [(2, .ptr 0 0), (3, .ptr 1 0), (4, .ptr 2 0), (5, .pv (.int .u64 ((sh (a + b) i - sh a i - sh b i : Nat) : Int))), (6, .pv (.int .i64 i))])
    (fun i => [.pcells (tab 20 (dpv (mix i (dgt (a + b)) (dgt a)))), .pcells (dc b), .pcells (dc 0)]) (fun i hi r => ?_) (fun r => ?_) ⟨rfl, rfl, rfl, ?_, rfl, trivial⟩ ?_
  · have inv : sh a i + sh b i ≤ sh (a + b) i ∧ sh (a + b) i ≤ sh a i + sh b i + 1 := by
      unfold sh
      have hp : 0 < 65536 ^ i := Nat.pow_pos (by decide)
      rw [Nat.add_div hp]
      split <;> omega
    have h0 := sh_succ a i
    have h1 := sh_succ b i
    have h2 := sh_succ (a + b) i
    have da : dgt a i = sh a i % 65536 := rfl
    have db : dgt b i = sh b i % 65536 := rfl
    have ds : dgt (a + b) i = sh (a + b) i % 65536 := rfl
    generalize hC : sh (a + b) i - sh a i - sh b i = C at *
    refine boolK_has_true (decide_eq_true (by omega)) ?_
    refine needK_has (by simp; omega) ?_
    refine hgetK_has _ rfl ?_
    refine getK_has (tab_get _ hi) ?_
    refine eqK_has_eq ((C + dgt a i : Nat) : Int) (by
      show IntKind.u64.wrap ((C : Int) + ((mix i (dgt (a + b)) (dgt a) i : Nat) : Int)) = _
      rw [mix_at]
      exact u64_nat (n := C + dgt a i) (by omega)) ?_
    refine needK_has (by simp; omega) ?_
    refine hgetK_has _ rfl ?_
    refine getK_has (tab_get _ hi) ?_
    refine eqK_has_eq ((C + dgt a i + dgt b i : Nat) : Int) (u64_nat (n := C + dgt a i + dgt b i) (by omega)) ?_
    refine needK_has rfl ?_
    refine eqK_has_eq ((dgt (a + b) i : Nat) : Int) ((u64_tmod _ 65536).trans (by rw [ds]; congr 1; omega)) ?_
    refine needK_has (by simp; omega) ?_
    refine hgetK_has _ rfl ?_
    refine needK_has (tab_blt _ hi) ?_
    refine eqK_has_eq _ (mix_set 20 i _ _) ?_
    refine needK_has rfl ?_
    refine eqK_has_eq ((sh (a + b) (i + 1) - sh a (i + 1) - sh b (i + 1) : Nat) : Int) ((u64_tdiv _ 65536 (by omega)).trans (by congr 1; omega)) ?_
    refine eqK_has_eq _ (i64_succ (by omega)) ?_
    exact Has.intro ⟨⟨rfl, rfl, rfl, rfl, rfl, trivial⟩, rfl⟩
  · refine boolK_has_false (decide_eq_false (by omega)) ?_
    refine Has.intro ?_
    refine hgetK_has _ rfl ?_
    refine secK_has (v := dc (a + b)) ((tab_sec _).1.trans (mix_full 20 _ _)) (tab_sec _).2 ?_
    refine hgetK_has _ rfl ?_
    refine needK_has (by rw [dc_len, dc_len]; rfl) ?_
    refine eqK_has_eq (dc (a + b)) (by
      show (dc 0).take 0 ++ dc (a + b) ++ (dc 0).drop (0 + 20) = _
      rw [List.take_zero, List.nil_append, List.drop_of_length_le (by rw [dc_len]; exact Nat.le_refl _), List.append_nil]) ?_
    refine hgetK_has _ rfl ?_
    refine secK_has (v := dc (a + b)) (tab_sec _).1 (tab_sec _).2 ?_
    exact Has.intro (Has.intro rfl)
  · show AV.pv (.int .u64 0) = _
    rw [sh_zero, sh_zero, sh_zero]
    have : a + b - a - b = 0 := by omega
    rw [this]; rfl
  · show [HObj.pcells _, .pcells _, .pcells _] = _
    rw [mix_none]
    rfl

end Go.Proofs.YtmickbidffdklaaDoor

namespace Go.Proofs.YtmickbidffdklaaDoor
open Go Go.VM

theorem dc_mod (a i : Nat) : dgt a i = sh a i % 65536 := rfl

/-- A word's digits. -/
theorem dof_ok (n : Nat) (hn : n < 18446744073709551616) : EP (EE env) 52 [.agg [.int .u64 0, .int .u64 (n : Int)]] = some (.agg (dc n)) := by
  have top : sh n 4 = 0 := sh_of_lt (by omega)
  refine Has.eq (EP_has ?_)
  refine loopK_has ?_
  refine iterE_up 4 (fun i => [(1, .ptr 0 0), (2, .ptr 1 0), (3, .ptr 2 0), (4, .pv (.int .i64 i))])
    (fun i => [.pcells [.int .u64 0, .int .u64 ((sh n i : Nat) : Int)], .pcells (dc 0), .pcells (tab 20 (dpv (mix i (dgt n) (fun _ => 0))))]) (fun i hi r => ?_) (fun r => ?_) ⟨rfl, rfl, rfl, rfl, trivial⟩ ?_
  · have h0 := sh_succ n i
    have h1 := sh_le n i
    refine boolK_has_true (decide_eq_true (by omega)) ?_
    refine hgetK_has _ rfl ?_
    refine getK_has rfl ?_
    refine needK_has rfl ?_
    refine eqK_has_eq _ (u64_tmod _ 65536) ?_
    refine needK_has (by simp; omega) ?_
    refine hgetK_has _ rfl ?_
    refine needK_has (tab_blt _ (show i < 20 by omega)) ?_
    refine eqK_has_eq _ (mix_set 20 i (dgt n) _) ?_
    refine eqK_has_eq ((4 + i : Nat) : Int) (wrap_i64 (by omega) (by omega)) ?_
    refine hgetK_has _ rfl ?_
    refine getK_has rfl ?_
    refine needK_has rfl ?_
    refine eqK_has_eq 0 rfl ?_
    refine needK_has (by simp; omega) ?_
    refine hgetK_has _ rfl ?_
    refine needK_has (tab_blt _ (show 4 + i < 20 by omega)) ?_
    refine eqK_has_eq (tab 20 (dpv (mix (i + 1) (dgt n) (fun _ => 0)))) (by
      refine tab_set_eq ?_ fun _ _ _ => rfl
      show PV.int .u64 ((mix (i + 1) (dgt n) (fun _ => 0) (4 + i) : Nat) : Int) = _
      unfold mix; rw [if_neg (by omega)]; rfl) ?_
    refine hgetK_has _ rfl ?_
    refine getK_has rfl ?_
    refine needK_has rfl ?_
    refine eqK_has_eq ((sh n (i + 1) : Nat) : Int) ((u64_tdiv _ 65536 (by omega)).trans (by rw [h0])) ?_
    refine hgetK_has _ rfl ?_
    refine needK_has rfl ?_
    refine eqK_has_eq [.int .u64 0, .int .u64 ((sh n (i + 1) : Nat) : Int)] rfl ?_
    refine hgetK_has _ rfl ?_
    refine getK_has rfl ?_
    refine needK_has rfl ?_
    refine eqK_has_eq 0 rfl ?_
    refine hgetK_has _ rfl ?_
    refine needK_has rfl ?_
    refine eqK_has_eq [.int .u64 0, .int .u64 ((sh n (i + 1) : Nat) : Int)] rfl ?_
    refine eqK_has_eq _ (i64_succ (by omega)) ?_
    exact Has.intro ⟨⟨rfl, rfl, rfl, rfl, trivial⟩, rfl⟩
  · have hd : tab 20 (dpv (mix 4 (dgt n) (fun _ => 0))) = dc n := tab_congr fun j _ => by
      show PV.int .u64 ((mix 4 (dgt n) (fun _ => 0) j : Nat) : Int) = .int .u64 ((dgt n j : Nat) : Int)
      unfold mix
      by_cases h : j < 4
      · rw [if_pos h]
      · rw [if_neg h, dc_mod]
        have := sh_zero_up top (j - 4)
        rw [show 4 + (j - 4) = j by omega] at this
        rw [this]
    refine boolK_has_false (decide_eq_false (by omega)) ?_
    refine Has.intro ?_
    refine hgetK_has _ rfl ?_
    refine secK_has (v := dc n) ((tab_sec _).1.trans hd) (tab_sec _).2 ?_
    refine hgetK_has _ rfl ?_
    refine needK_has (by rw [dc_len, dc_len]; rfl) ?_
    refine eqK_has_eq (dc n) (by
      show (dc 0).take 0 ++ dc n ++ (dc 0).drop (0 + 20) = _
      rw [List.take_zero, List.nil_append, List.drop_of_length_le (by rw [dc_len]; exact Nat.le_refl _), List.append_nil]) ?_
    refine hgetK_has _ rfl ?_
    refine secK_has (v := dc n) (tab_sec _).1 (tab_sec _).2 ?_
    exact Has.intro (Has.intro rfl)
  · show [HObj.pcells _, .pcells _, .pcells _] = _
    rw [mix_none, sh_zero]; rfl

theorem dc_one : [PV.int .u64 1, .int .u64 0, .int .u64 0, .int .u64 0, .int .u64 0, .int .u64 0, .int .u64 0, .int .u64 0, .int .u64 0, .int .u64 0, .int .u64 0, .int .u64 0, .int .u64 0, .int .u64 0, .int .u64 0, .int .u64 0, .int .u64 0, .int .u64 0, .int .u64 0, .int .u64 0] = dc 1 := by
  have : dc 1 = tab 20 (fun j => if j = 0 then .int .u64 1 else .int .u64 0) := tab_congr fun j _ => by
    show PV.int .u64 ((dgt 1 j : Nat) : Int) = _
    by_cases h : j = 0
    · subst h; rfl
    · rw [if_neg h]
      have : dgt 1 j = 0 := by
        rw [dc_mod, sh_of_lt]
        calc 1 < 65536 ^ 1 := by decide
          _ ≤ 65536 ^ j := Nat.pow_le_pow_right (by decide) (by omega)
      rw [this]; rfl
  rw [this]; rfl
theorem dc_store (a b : Nat) : (dc a).take 0 ++ dc b ++ (dc a).drop (0 + 20) = dc b := by
  rw [List.take_zero, List.nil_append, List.drop_of_length_le (by rw [dc_len]; exact Nat.le_refl _), List.append_nil]
theorem dc_fits (a b : Nat) : (Nat.beq (dc b).length 20 && Nat.ble (0 + 20) (dc a).length) = true := by rw [dc_len, dc_len]; rfl

/-- Digits back into two words. -/
theorem wide_ok (a : Nat) (ha : a < 340282366920938463463374607431768211456) :
    EP (EE env) 54 [.agg (dc a)] = some (.tup [.agg [.int .u64 ((a / 18446744073709551616 : Nat) : Int), .int .u64 ((a % 18446744073709551616 : Nat) : Int)], .bool true]) := by
  have top : sh a 8 = 0 := sh_of_lt (by omega)
  have low : ∀ m, m < 4 → sh a (3 - m) % 65536 ^ (m + 1) = (sh a (4 - m) % 65536 ^ m) * 65536 + sh a (3 - m) % 65536 := by
    intro m hm
    have h0 := sh_succ a (3 - m)
    rw [show 3 - m + 1 = 4 - m by omega] at h0
    have : m = 0 ∨ m = 1 ∨ m = 2 ∨ m = 3 := by omega
    rcases this with e | e | e | e <;> subst e <;> simp only [Nat.reducePow, Nat.reduceAdd, Nat.reduceSub] at h0 ⊢ <;> omega
  have high : ∀ m, m < 4 → sh a (7 - m) % 65536 ^ (m + 1) = (sh a (8 - m) % 65536 ^ m) * 65536 + sh a (7 - m) % 65536 := by
    intro m hm
    have h0 := sh_succ a (7 - m)
    rw [show 7 - m + 1 = 8 - m by omega] at h0
    have : m = 0 ∨ m = 1 ∨ m = 2 ∨ m = 3 := by omega
    rcases this with e | e | e | e <;> subst e <;> simp only [Nat.reducePow, Nat.reduceAdd, Nat.reduceSub] at h0 ⊢ <;> omega
  have small : ∀ m x, m ≤ 4 → x % 65536 ^ m < 18446744073709551616 := by
    intro m x hm
    have h1 : 65536 ^ m ≤ 65536 ^ 4 := Nat.pow_le_pow_right (by decide) hm
    have h2 : x % 65536 ^ m < 65536 ^ m := Nat.mod_lt _ (Nat.pow_pos (by decide))
    omega
  refine Has.eq (EP_has ?_)
  refine loopK_has ?_
  refine iterE_up 4 (fun m => [(1, .ptr 0 0), (2, .ptr 1 0), (3, .pv (.bool false)), (4, .ptr 2 0), (5, .pv (.int .i64 (3 - (m : Int))))])
    (fun m => [.pcells (dc a), .pcells [.int .u64 0, .int .u64 0], .pcells [.int .u64 ((sh a (8 - m) % 65536 ^ m : Nat) : Int), .int .u64 ((sh a (4 - m) % 65536 ^ m : Nat) : Int)]]) (fun m hm r => ?_) (fun r => ?_) ⟨rfl, rfl, rfl, rfl, rfl, trivial⟩ ?_
  · have l0 := low m hm
    have l1 := high m hm
    have s0 := small (m + 1) (sh a (3 - m)) (by omega)
    have s1 := small (m + 1) (sh a (7 - m)) (by omega)
    have en : (3 - (m : Int)).toNat = 3 - m := by omega
    have en4 : (4 + (3 - (m : Int))) = ((7 - m : Nat) : Int) := by omega
    refine boolK_has_true (decide_eq_true (by omega)) ?_
    refine hgetK_has _ rfl ?_
    refine getK_has rfl ?_
    refine eqK_has_eq ((sh a (4 - m) % 65536 ^ m * 65536 : Nat) : Int) (u64_nat (n := sh a (4 - m) % 65536 ^ m * 65536) (by omega)) ?_
    refine needK_has (by simp; omega) ?_
    refine hgetK_has _ rfl ?_
    refine getK_has (show (dc a)[addO 0 (3 - (m : Int)).toNat]? = some (dpv (dgt a) (3 - m)) by rw [en]; exact tab_get _ (show 3 - m < 20 by omega)) ?_
    refine eqK_has_eq ((sh a (3 - m) % 65536 ^ (m + 1) : Nat) : Int) ((u64_nat (n := sh a (4 - m) % 65536 ^ m * 65536 + dgt a (3 - m)) (by rw [dc_mod]; omega)).trans (by rw [l0]; rfl)) ?_
    refine hgetK_has _ rfl ?_
    refine needK_has rfl ?_
    refine eqK_has_eq [.int .u64 ((sh a (8 - m) % 65536 ^ m : Nat) : Int), .int .u64 ((sh a (3 - m) % 65536 ^ (m + 1) : Nat) : Int)] rfl ?_
    refine hgetK_has _ rfl ?_
    refine getK_has rfl ?_
    refine eqK_has_eq ((sh a (8 - m) % 65536 ^ m * 65536 : Nat) : Int) (u64_nat (n := sh a (8 - m) % 65536 ^ m * 65536) (by omega)) ?_
    refine eqK_has_eq ((7 - m : Nat) : Int) ((wrap_i64 (by omega) (by omega)).trans en4) ?_
    refine needK_has (by simp; omega) ?_
    refine hgetK_has _ rfl ?_
    refine getK_has (tab_get _ (show 7 - m < 20 by omega)) ?_
    refine eqK_has_eq ((sh a (7 - m) % 65536 ^ (m + 1) : Nat) : Int) ((u64_nat (n := sh a (8 - m) % 65536 ^ m * 65536 + dgt a (7 - m)) (by rw [dc_mod]; omega)).trans (by rw [l1]; rfl)) ?_
    refine hgetK_has _ rfl ?_
    refine needK_has rfl ?_
    refine eqK_has_eq [.int .u64 ((sh a (7 - m) % 65536 ^ (m + 1) : Nat) : Int), .int .u64 ((sh a (3 - m) % 65536 ^ (m + 1) : Nat) : Int)] rfl ?_
    refine eqK_has_eq (3 - ((m + 1 : Nat) : Int)) (by rw [wrap_i64 (by omega) (by omega)]; omega) ?_
    refine Has.intro ⟨⟨rfl, rfl, rfl, rfl, rfl, trivial⟩, ?_⟩
    rw [show 8 - (m + 1) = 7 - m by omega, show 4 - (m + 1) = 3 - m by omega]; rfl
  · refine boolK_has_false (decide_eq_false (by omega)) ?_
    refine Has.intro ?_
    refine loopK_has ?_
    have e1 : sh a (8 - 4) % 65536 ^ 4 = a / 18446744073709551616 := by
      show sh a 4 % 65536 ^ 4 = _
      unfold sh
      have : (65536 ^ 4 : Nat) = 18446744073709551616 := by decide
      rw [this]; omega
    have e2 : sh a (4 - 4) % 65536 ^ 4 = a % 18446744073709551616 := by
      show sh a 0 % 65536 ^ 4 = _
      rw [sh_zero]
    rw [e1, e2]
    refine iterE_up 12 (fun m => [(1, .ptr 0 0), (2, .ptr 1 0), (3, .pv (.bool false)), (4, .ptr 2 0), (6, .pv (.int .i64 (8 + (m : Int))))])
      (fun m => [.pcells (dc a), .pcells [.int .u64 0, .int .u64 0], .pcells [.int .u64 ((a / 18446744073709551616 : Nat) : Int), .int .u64 ((a % 18446744073709551616 : Nat) : Int)]]) (fun m hm r2 => ?_) (fun r2 => ?_) ⟨rfl, rfl, rfl, rfl, rfl, trivial⟩ rfl
    · have en : (8 + (m : Int)).toNat = 8 + m := by omega
      have hz : dgt a (8 + m) = 0 := by rw [dc_mod, sh_zero_up top m]
      refine boolK_has_true (decide_eq_true (by omega)) ?_
      refine needK_has (by simp; omega) ?_
      refine hgetK_has _ rfl ?_
      refine getK_has (show (dc a)[addO 0 (8 + (m : Int)).toNat]? = some (.int .u64 0) by rw [en]; exact (tab_get _ (show 8 + m < 20 by omega)).trans (by show some (PV.int .u64 ((dgt a (8 + m) : Nat) : Int)) = _; rw [hz]; rfl)) ?_
      refine boolK_has_false rfl ?_
      refine eqK_has_eq (8 + ((m + 1 : Nat) : Int)) (by rw [wrap_i64 (by omega) (by omega)]; omega) ?_
      exact Has.intro ⟨⟨rfl, rfl, rfl, rfl, rfl, trivial⟩, rfl⟩
    · refine boolK_has_false (decide_eq_false (by omega)) ?_
      refine Has.intro ?_
      refine hgetK_has _ rfl ?_
      refine secK_has rfl (Nat.le_refl 2) ?_
      refine hgetK_has _ rfl ?_
      refine needK_has rfl ?_
      refine eqK_has_eq [.int .u64 ((a / 18446744073709551616 : Nat) : Int), .int .u64 ((a % 18446744073709551616 : Nat) : Int)] rfl ?_
      refine hgetK_has _ rfl ?_
      refine secK_has rfl (Nat.le_refl 2) ?_
      exact Has.intro (Has.intro rfl)
  · rw [Nat.pow_zero, Nat.mod_one, Nat.mod_one]; rfl
end Go.Proofs.YtmickbidffdklaaDoor
