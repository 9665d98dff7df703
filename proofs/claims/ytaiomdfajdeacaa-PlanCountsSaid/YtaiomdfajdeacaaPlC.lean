/-
  The next step.
-/
import Derived.Test.YtaiomdfajdeacaaPlB
set_option linter.all false
set_option linter.unusedVariables false
set_option linter.unusedSimpArgs false
set_option linter.unusedSectionVars false
namespace Go.Proofs.Ytaiomdfajdeacaa
open Go Go.VM

def z5 : Kn := ⟨0, 0, 0, 0, 0⟩
def gt (l : List Kn) (i : Nat) : Kn := l.getD i z5
theorem gt_eq {l : List Kn} {i : Nat} {k : Kn} (h : l[i]? = some k) : gt l i = k := by unfold gt; rw [List.getD_eq_getElem?_getD, h]; rfl
def dn : List Int := [2, 3, 0, 4]
def upw : List Int := [3, 2, 0, 4]
theorem down_ok : EP (EE env) 21 [] = some (.agg (ints dn)) := by
  refine Has.eq (EP_has ?_)
  (repeat (first | refine hgetK_last ?_ | refine hgetK_set ?_ | refine hgetK_has _ rfl ?_ | refine needK_has rfl ?_ | refine getK_has rfl ?_ | refine secK_has rfl (by first | exact Nat.le_refl _ | decide) ?_ | refine eqK_has ?_))
  (refine Has.intro (Has.intro ?_))
  rfl
theorem up_ok : EP (EE env) 24 [] = some (.agg (ints upw)) := by
  refine Has.eq (EP_has ?_)
  (repeat (first | refine hgetK_last ?_ | refine hgetK_set ?_ | refine hgetK_has _ rfl ?_ | refine needK_has rfl ?_ | refine getK_has rfl ?_ | refine secK_has rfl (by first | exact Nat.le_refl _ | decide) ?_ | refine eqK_has ?_))
  (refine Has.intro (Has.intro ?_))
  rfl
/-- Some container's first file that goes some way. -/
def smf (now to : List Kn) (o : List Int) (way : Int) : Option Stp := (List.range now.length).findSome? fun (i : Nat) => fst i (gt now i) (gt to i) o way
theorem some_ok' (x y : Ext) (now to : List Kn) (hlen : now.length = to.length) (hl : now.length ≤ maxLen) (o : List Int) (ho : o.length = 4) (way : Int) :
    EP (EE env) 20 [.sl x now.length (kns now), .sl y to.length (kns to), .agg (ints o), .int .i64 way] = some (op (smf now to o way)) := by
  rw [maxLen_eq] at hl
  refine Has.eq (EP_has ?_)
  refine loopK_has ?_
  refine iterE_loopJ (σ := Nat) (fun m => now.length - m) (fun m => [(0, .pv (.sl x now.length (kns now))), (1, .pv (.sl y to.length (kns to))), (3, .pv (.int .i64 way)), (6, .ptr 0 0), (8, .ptr 1 0), (14, .pv (.int .i64 now.length)), (15, .pv (.int .i64 m))])
    (fun _ => [.pcells (ints o), .pcells (sc ⟨0, 0, 0⟩)]) (fun m => m ≤ now.length ∧ ∀ j, j < m → fst j (gt now j) (gt to j) o way = none) (fun m ⟨hm, hno⟩ r J => ?_) 0 ⟨Nat.zero_le _, fun j hj => by omega⟩ [] ⟨rfl, rfl, rfl, rfl, rfl, rfl, rfl, trivial⟩ rfl
  refine boolK_dec (fun hc => ?_) (fun hc => ?_)
  · have hlt : m < now.length := by omega
    obtain ⟨k, hk⟩ : ∃ k, now[m]? = some k := ⟨now[m], List.getElem?_eq_getElem hlt⟩
    obtain ⟨k2, hk2⟩ : ∃ k, to[m]? = some k := ⟨to[m]'(by omega), List.getElem?_eq_getElem (by omega)⟩
    obtain ⟨g1, g2⟩ := kns_get hk
    obtain ⟨g3, g4⟩ := kns_get hk2
    have hcall := first_ok' m k k2 o ho way
    refine needK_has (by (first | rfl | (simp; done) | (simp; omega))) ?_
    refine secK_has g1 g2 ?_
    refine needK_has (by (first | rfl | (simp; done) | (simp; omega))) ?_
    refine secK_has g3 g4 ?_
    refine hgetK_has _ rfl ?_
    refine secK_has (v := ints o) (by rw [List.drop_zero]; exact List.take_of_length_le (by rw [ints_len]; omega)) (by rw [ints_len]; omega) ?_
    cases hq : fst m k k2 o way with
    | none =>
      rw [hq] at hcall
      refine callPK_has hcall ?_
      (first | refine hgetK_last ?_ | refine hgetK_set ?_ | refine hgetK_has _ rfl ?_)
      refine needK_has rfl ?_
      refine eqK_has ?_
      refine eqK_has_eq _ (i64_succ (by omega)) ?_
      refine Has.intro ⟨m + 1, ⟨hlt, fun j hj => ?_⟩, by omega, ⟨rfl, rfl, rfl, rfl, rfl, rfl, rfl, trivial⟩, _, rfl⟩
      by_cases e : j = m
      · subst e; rw [gt_eq hk, gt_eq hk2]; exact hq
      · exact hno j (by omega)
    | some s =>
      rw [hq] at hcall
      refine callPK_has hcall ?_
      (first | refine hgetK_last ?_ | refine hgetK_set ?_ | refine hgetK_has _ rfl ?_)
      refine needK_has rfl ?_
      refine eqK_has ?_
      (first | refine hgetK_last ?_ | refine hgetK_set ?_ | refine hgetK_has _ rfl ?_)
      refine secK_has rfl (Nat.le_refl 3) ?_
      (first | refine hgetK_last ?_ | refine hgetK_set ?_ | refine hgetK_has _ rfl ?_)
      refine needK_has rfl ?_
      refine eqK_has ?_
      refine Has.intro ?_
      (first | refine hgetK_last ?_ | refine hgetK_set ?_ | refine hgetK_has _ rfl ?_)
      refine secK_has rfl (Nat.le_refl 3) ?_
      (refine Has.intro (Has.intro ?_))
      have : smf now to o way = some s := range_some hno hlt (by rw [gt_eq hk, gt_eq hk2]; exact hq)
      rw [this]; rfl
  · have : m = now.length := by omega
    subst this
    refine Has.intro ?_
    (repeat (first | refine hgetK_last ?_ | refine hgetK_set ?_ | refine hgetK_has _ rfl ?_ | refine needK_has rfl ?_ | refine getK_has rfl ?_ | refine secK_has rfl (by first | exact Nat.le_refl _ | decide) ?_ | refine eqK_has ?_))
    (refine Has.intro (Has.intro ?_))
    have : smf now to o way = none := range_none hno
    rw [this]; rfl

theorem kns_cell {l : List Kn} {i : Nat} {k : Kn} (h : l[i]? = some k) {j : Nat} (hj : j < 5) : (kns l)[i * 5 + j]? = (kn k)[j]? := by
  obtain ⟨g1, _⟩ := kns_get h
  rw [← g1, List.getElem?_take, if_pos hj, List.getElem?_drop]
theorem kns_w {l : List Kn} {i : Nat} {k : Kn} (h : l[i]? = some k) : (kns l)[addO (mulE ((i : Nat) : Int).toNat 5) 1]? = some (.int .i64 k.w) := by
  rw [addO_eq]
  show (kns l)[i * 5 + 1]? = _
  rw [kns_cell h (by decide)]; rfl

/-- A weight that isn't as it should be. -/
def wgc (now to : List Kn) : Option Stp := (List.range now.length).findSome? fun (i : Nat) => if (gt now i).w ≠ (gt to i).w then some ⟨i, 1, (gt to i).w⟩ else none
def wgt (pod podTo : Kn) (now to : List Kn) : Option Stp := (wgc now to).or (if pod.w ≠ podTo.w then some ⟨-1, 1, podTo.w⟩ else none)
def wgP (podTo : Kn) (o : Option Stp) : PV := .tup [.agg (sc (o.getD ⟨-1, 1, podTo.w⟩)), .bool o.isSome]
theorem weight_ok (pod podTo : Kn) (x y : Ext) (now to : List Kn) (hlen : now.length = to.length) (hl : now.length ≤ maxLen) :
    EP (EE env) 22 [.agg (kn pod), .agg (kn podTo), .sl x now.length (kns now), .sl y to.length (kns to)] = some (wgP podTo (wgt pod podTo now to)) := by
  rw [maxLen_eq] at hl
  refine Has.eq (EP_has ?_)
  refine loopK_has ?_
  refine iterE_loop (σ := Nat) (fun m => now.length - m) (fun m => [(2, .pv (.sl x now.length (kns now))), (3, .pv (.sl y to.length (kns to))), (4, .ptr 0 0), (5, .ptr 1 0), (8, .ptr 2 0), (12, .pv (.int .i64 now.length)), (13, .pv (.int .i64 m))])
    (fun _ => [.pcells (kn pod), .pcells (kn podTo), .pcells (sc ⟨0, 0, 0⟩)]) (fun m => m ≤ now.length ∧ ∀ j : Nat, j < m → (if (gt now j).w ≠ (gt to j).w then some (⟨j, 1, (gt to j).w⟩ : Stp) else none) = none) (fun m ⟨hm, hno⟩ r => ?_) 0 ⟨Nat.zero_le _, fun j hj => by omega⟩ ⟨rfl, rfl, rfl, rfl, rfl, rfl, rfl, trivial⟩ rfl
  refine boolK_dec (fun hc => ?_) (fun hc => ?_)
  · have hlt : m < now.length := by omega
    obtain ⟨k, hk⟩ : ∃ k, now[m]? = some k := ⟨now[m], List.getElem?_eq_getElem hlt⟩
    obtain ⟨k2, hk2⟩ : ∃ k, to[m]? = some k := ⟨to[m]'(by omega), List.getElem?_eq_getElem (by omega)⟩
    have g1 := kns_w hk
    have g3 := kns_w hk2
    refine needK_has (by (first | rfl | (simp; done) | (simp; omega))) ?_
    refine getK_has g1 ?_
    refine needK_has (by (first | rfl | (simp; done) | (simp; omega))) ?_
    refine getK_has g3 ?_
    refine boolK_bne (fun hne => ?_) (fun hne => ?_)
    · refine needK_has (by (first | rfl | (simp; done) | (simp; omega))) ?_
      refine getK_has g3 ?_
      (repeat (first | refine hgetK_last ?_ | refine hgetK_set ?_ | refine hgetK_has _ rfl ?_ | refine needK_has rfl ?_ | refine getK_has rfl ?_ | refine secK_has rfl (by first | exact Nat.le_refl _ | decide) ?_ | refine eqK_has ?_))
      refine Has.intro ?_
      (repeat (first | refine hgetK_last ?_ | refine hgetK_set ?_ | refine hgetK_has _ rfl ?_ | refine needK_has rfl ?_ | refine getK_has rfl ?_ | refine secK_has rfl (by first | exact Nat.le_refl _ | decide) ?_ | refine eqK_has ?_))
      (refine Has.intro (Has.intro ?_))
      have : wgc now to = some ⟨m, 1, k2.w⟩ := range_some hno hlt (by rw [gt_eq hk, gt_eq hk2, if_pos hne])
      unfold wgt
      rw [this]; rfl
    · refine eqK_has_eq _ (i64_succ (by omega)) ?_
      refine Has.intro ⟨m + 1, ⟨hlt, fun j hj => ?_⟩, by omega, ⟨rfl, rfl, rfl, rfl, rfl, rfl, rfl, trivial⟩, rfl⟩
      by_cases e : j = m
      · subst e; rw [gt_eq hk, gt_eq hk2, if_neg (fun h => h hne)]
      · exact hno j (by omega)
  · have : m = now.length := by omega
    subst this
    have : wgc now to = none := range_none hno
    refine Has.intro ?_
    refine hgetK_has _ rfl ?_
    refine getK_has rfl ?_
    refine hgetK_has _ rfl ?_
    refine getK_has rfl ?_
    refine hgetK_has _ rfl ?_
    refine getK_has rfl ?_
    refine boolK_bne (fun hne => ?_) (fun hne => ?_)
    all_goals
      refine hgetK_has _ rfl ?_
      refine needK_has rfl ?_
      refine eqK_has ?_
      refine sameK_has rfl rfl ?_
      refine sameK_has rfl rfl ?_
      (repeat (first | refine hgetK_last ?_ | refine hgetK_set ?_ | refine hgetK_has _ rfl ?_ | refine needK_has rfl ?_ | refine getK_has rfl ?_ | refine secK_has rfl (by first | exact Nat.le_refl _ | decide) ?_ | refine eqK_has ?_))
      (refine Has.intro (Has.intro ?_))
      unfold wgt
      rw [this]
    · rw [if_pos hne]; rfl
    · rw [if_neg (fun h => h hne)]; rfl

/-- The next step. -/
def nxt (pod podTo : Kn) (now to : List Kn) : Option Stp :=
  if now.length ≠ to.length then none else
    (smf now to dn 0).or ((wgt pod podTo now to).or ((fst (-1) pod podTo upw 1).or ((smf now to upw 1).or (fst (-1) pod podTo dn 0))))
theorem next_ok (pod podTo : Kn) (x y : Ext) (now to : List Kn) (hl : now.length ≤ maxLen) :
    EP (EE env) 7 [.agg (kn pod), .agg (kn podTo), .sl x now.length (kns now), .sl y to.length (kns to)] = some (op (nxt pod podTo now to)) := by
  refine Has.eq (EP_has (fn_has rfl ?_))
  refine seq_on ([(2, .pv (.sl x now.length (kns now))), (3, .pv (.sl y to.length (kns to))), (4, .ptr 0 0), (5, .ptr 1 0), (8, .ptr 2 0)]) [.pcells (kn pod), .pcells (kn podTo), .pcells (sc ⟨0, 0, 0⟩)] (Has.intro ⟨rfl, ⟨rfl, rfl, rfl, rfl, rfl, trivial⟩, rfl⟩) (fun r => ?_)
  by_cases hne : now.length ≠ to.length
  · refine boolK_bne_t (by omega) ?_
    (repeat (first | refine hgetK_last ?_ | refine hgetK_set ?_ | refine hgetK_has _ rfl ?_ | refine needK_has rfl ?_ | refine getK_has rfl ?_ | refine secK_has rfl (by first | exact Nat.le_refl _ | decide) ?_ | refine eqK_has ?_))
    (refine Has.intro (Has.intro ?_))
    unfold nxt
    rw [if_pos (by omega)]; rfl
  have hlen : now.length = to.length := by omega
  have e : nxt pod podTo now to = (smf now to dn 0).or ((wgt pod podTo now to).or ((fst (-1) pod podTo upw 1).or ((smf now to upw 1).or (fst (-1) pod podTo dn 0)))) := if_neg (fun h => h hlen)
  have h1 := some_ok' x y now to hlen hl dn rfl 0
  have h2 := weight_ok pod podTo x y now to hlen hl
  have h3 := first_ok' (-1) pod podTo upw rfl 1
  have h4 := some_ok' x y now to hlen hl upw rfl 1
  have h5 := first_ok' (-1) pod podTo dn rfl 0
  rw [e]
  generalize smf now to dn 0 = o1 at *
  generalize wgt pod podTo now to = o2 at *
  generalize fst (-1) pod podTo upw 1 = o3 at *
  generalize smf now to upw 1 = o4 at *
  generalize fst (-1) pod podTo dn 0 = o5 at *
  refine seq_on ([(2, .pv (.sl x now.length (kns now))), (3, .pv (.sl y to.length (kns to))), (4, .ptr 0 0), (5, .ptr 1 0), (8, .ptr 2 0)]) [.pcells (kn pod), .pcells (kn podTo), .pcells (sc ⟨0, 0, 0⟩)] ?_ (fun r => ?_)
  · refine boolK_bne_f (by omega) ?_
    (refine Has.intro ⟨rfl, ?_, rfl⟩; (repeat (first | exact trivial | refine ⟨rfl, ?_⟩)))
  cases o1 with
  | some s =>
    refine callPK_has down_ok ?_
    refine callPK_has h1 ?_
    (repeat (first | refine hgetK_last ?_ | refine hgetK_set ?_ | refine hgetK_has _ rfl ?_ | refine needK_has rfl ?_ | refine getK_has rfl ?_ | refine secK_has rfl (by first | exact Nat.le_refl _ | decide) ?_ | refine eqK_has ?_))
    (refine Has.intro (Has.intro ?_))
    rfl
  | none =>
  refine seq_on ([(2, .pv (.sl x now.length (kns now))), (3, .pv (.sl y to.length (kns to))), (4, .ptr 0 0), (5, .ptr 1 0), (8, .ptr 2 0)]) [.pcells (kn pod), .pcells (kn podTo), .pcells (sc ⟨0, 0, 0⟩), .pcells (sc ⟨0, 0, 0⟩)] ?_ (fun r => ?_)
  · refine callPK_has down_ok ?_
    refine callPK_has h1 ?_
    (refine hgetK_has _ rfl ?_; refine needK_has rfl ?_; refine eqK_has_eq (sc ⟨0, 0, 0⟩) rfl ?_)
    (refine Has.intro ⟨rfl, ?_, rfl⟩; (repeat (first | exact trivial | refine ⟨rfl, ?_⟩)))
  cases o2 with
  | some s =>
    (refine hgetK_has _ rfl ?_; refine secK_has (v := kn pod) rfl (Nat.le_refl _) ?_; refine hgetK_has _ rfl ?_; refine secK_has (v := kn podTo) rfl (Nat.le_refl _) ?_)
    refine callPK_has h2 ?_
    (repeat (first | refine hgetK_last ?_ | refine hgetK_set ?_ | refine hgetK_has _ rfl ?_ | refine needK_has rfl ?_ | refine getK_has rfl ?_ | refine secK_has rfl (by first | exact Nat.le_refl _ | decide) ?_ | refine eqK_has ?_))
    (refine Has.intro (Has.intro ?_))
    rfl
  | none =>
  refine seq_on ([(2, .pv (.sl x now.length (kns now))), (3, .pv (.sl y to.length (kns to))), (4, .ptr 0 0), (5, .ptr 1 0), (8, .ptr 2 0)]) [.pcells (kn pod), .pcells (kn podTo), .pcells (sc ⟨0, 0, 0⟩), .pcells (sc ⟨0, 0, 0⟩), .pcells (sc ⟨-1, 1, podTo.w⟩)] ?_ (fun r => ?_)
  · (refine hgetK_has _ rfl ?_; refine secK_has (v := kn pod) rfl (Nat.le_refl _) ?_; refine hgetK_has _ rfl ?_; refine secK_has (v := kn podTo) rfl (Nat.le_refl _) ?_)
    refine callPK_has h2 ?_
    refine hgetK_has _ rfl ?_
    refine needK_has rfl ?_
    refine eqK_has_eq (sc ⟨-1, 1, podTo.w⟩) rfl ?_
    (refine Has.intro ⟨rfl, ?_, rfl⟩; (repeat (first | exact trivial | refine ⟨rfl, ?_⟩)))
  cases o3 with
  | some s =>
    (refine hgetK_has _ rfl ?_; refine secK_has (v := kn pod) rfl (Nat.le_refl _) ?_; refine hgetK_has _ rfl ?_; refine secK_has (v := kn podTo) rfl (Nat.le_refl _) ?_)
    refine callPK_has up_ok ?_
    refine callPK_has h3 ?_
    (repeat (first | refine hgetK_last ?_ | refine hgetK_set ?_ | refine hgetK_has _ rfl ?_ | refine needK_has rfl ?_ | refine getK_has rfl ?_ | refine secK_has rfl (by first | exact Nat.le_refl _ | decide) ?_ | refine eqK_has ?_))
    (refine Has.intro (Has.intro ?_))
    rfl
  | none =>
  refine seq_on ([(2, .pv (.sl x now.length (kns now))), (3, .pv (.sl y to.length (kns to))), (4, .ptr 0 0), (5, .ptr 1 0), (8, .ptr 2 0)]) [.pcells (kn pod), .pcells (kn podTo), .pcells (sc ⟨0, 0, 0⟩), .pcells (sc ⟨0, 0, 0⟩), .pcells (sc ⟨-1, 1, podTo.w⟩), .pcells (sc ⟨0, 0, 0⟩)] ?_ (fun r => ?_)
  · (refine hgetK_has _ rfl ?_; refine secK_has (v := kn pod) rfl (Nat.le_refl _) ?_; refine hgetK_has _ rfl ?_; refine secK_has (v := kn podTo) rfl (Nat.le_refl _) ?_)
    refine callPK_has up_ok ?_
    refine callPK_has h3 ?_
    (refine hgetK_has _ rfl ?_; refine needK_has rfl ?_; refine eqK_has_eq (sc ⟨0, 0, 0⟩) rfl ?_)
    (refine Has.intro ⟨rfl, ?_, rfl⟩; (repeat (first | exact trivial | refine ⟨rfl, ?_⟩)))
  cases o4 with
  | some s =>
    refine callPK_has up_ok ?_
    refine callPK_has h4 ?_
    (repeat (first | refine hgetK_last ?_ | refine hgetK_set ?_ | refine hgetK_has _ rfl ?_ | refine needK_has rfl ?_ | refine getK_has rfl ?_ | refine secK_has rfl (by first | exact Nat.le_refl _ | decide) ?_ | refine eqK_has ?_))
    (refine Has.intro (Has.intro ?_))
    rfl
  | none =>
  refine seq_on ([(2, .pv (.sl x now.length (kns now))), (3, .pv (.sl y to.length (kns to))), (4, .ptr 0 0), (5, .ptr 1 0), (8, .ptr 2 0)]) [.pcells (kn pod), .pcells (kn podTo), .pcells (sc ⟨0, 0, 0⟩), .pcells (sc ⟨0, 0, 0⟩), .pcells (sc ⟨-1, 1, podTo.w⟩), .pcells (sc ⟨0, 0, 0⟩), .pcells (sc ⟨0, 0, 0⟩)] ?_ (fun r => ?_)
  · refine callPK_has up_ok ?_
    refine callPK_has h4 ?_
    (refine hgetK_has _ rfl ?_; refine needK_has rfl ?_; refine eqK_has_eq (sc ⟨0, 0, 0⟩) rfl ?_)
    (refine Has.intro ⟨rfl, ?_, rfl⟩; (repeat (first | exact trivial | refine ⟨rfl, ?_⟩)))
  (refine hgetK_has _ rfl ?_; refine secK_has (v := kn pod) rfl (Nat.le_refl _) ?_; refine hgetK_has _ rfl ?_; refine secK_has (v := kn podTo) rfl (Nat.le_refl _) ?_)
  refine callPK_has down_ok ?_
  refine callPK_has h5 ?_
  (repeat (first | refine hgetK_last ?_ | refine hgetK_set ?_ | refine hgetK_has _ rfl ?_ | refine needK_has rfl ?_ | refine getK_has rfl ?_ | refine secK_has rfl (by first | exact Nat.le_refl _ | decide) ?_ | refine eqK_has ?_))
  (refine Has.intro (Has.intro ?_))
  rfl
end Go.Proofs.Ytaiomdfajdeacaa
