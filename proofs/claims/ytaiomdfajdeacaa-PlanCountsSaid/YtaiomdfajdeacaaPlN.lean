/-
  Same lists; what must be answered ahead of everything else; what is given.
-/
import Derived.Test.YtaiomdfajdeacaaPlM
set_option linter.all false
set_option linter.unusedVariables false
set_option linter.unusedSimpArgs false
set_option linter.unusedSectionVars false
namespace Go.Proofs.Ytaiomdfajdeacaa
open Go Go.VM

instance : DecidableEq Kn := fun a b => decidable_of_iff (a.c = b.c ∧ a.w = b.w ∧ a.mn = b.mn ∧ a.mx = b.mx ∧ a.hg = b.hg) (by
  obtain ⟨c, w, mn, mx, hg⟩ := a
  obtain ⟨c', w', mn', mx', hg'⟩ := b
  simp)
instance : DecidableEq Stp := fun a b => decidable_of_iff (a.who = b.who ∧ a.f = b.f ∧ a.n = b.n) (by
  obtain ⟨c, w, mn⟩ := a
  obtain ⟨c', w', mn'⟩ := b
  simp)
theorem aggK (a b : Kn) : aggEq [.i, .i, .i, .i, .i] (kn a) (kn b) = some (decide (a = b)) := by
  have e : aggEq [.i, .i, .i, .i, .i] (kn a) (kn b) = some ((a.c == b.c) && ((a.w == b.w) && ((a.mn == b.mn) && ((a.mx == b.mx) && ((a.hg == b.hg) && true))))) := rfl
  rw [e]
  congr 1
  rw [Bool.eq_iff_iff]
  obtain ⟨c, w, mn, mx, hg⟩ := a
  obtain ⟨c', w', mn', mx', hg'⟩ := b
  simp
theorem aggS (a b : Stp) : aggEq [.i, .i, .i] (sc a) (sc b) = some (decide (a = b)) := by
  have e : aggEq [.i, .i, .i] (sc a) (sc b) = some ((a.who == b.who) && ((a.f == b.f) && ((a.n == b.n) && true))) := rfl
  rw [e]
  congr 1
  rw [Bool.eq_iff_iff]
  obtain ⟨c, w, mn⟩ := a
  obtain ⟨c', w', mn'⟩ := b
  simp
theorem same_ok (x y : Ext) (l m : List Kn) (hl : l.length ≤ 1000) : EP (EE env) 16 [.sl x l.length (kns l), .sl y m.length (kns m)] = some (.bool (decide (l = m))) := by
  refine Has.eq (EP_has ?_)
  refine boolK_bne (fun h => ?_) (fun hlen => ?_)
  · (refine Has.intro (Has.intro ?_))
    exact no (fun hh => h (by rw [hh]))
  refine loopK_has ?_
  refine iterE_loop (σ := Nat) (fun i => l.length - i) (fun i => [(0, .pv (.sl x l.length (kns l))), (1, .pv (.sl y m.length (kns m))), (12, .pv (.int .i64 l.length)), (13, .pv (.int .i64 i))]) (fun _ => [])
    (fun i => i ≤ l.length ∧ ∀ j, j < i → l[j]? = m[j]?) (fun i ⟨hi, hs⟩ r => ?_) 0 ⟨Nat.zero_le _, fun j hj => by omega⟩ ⟨rfl, rfl, rfl, rfl, trivial⟩ rfl
  refine boolK_dec (fun hc => ?_) (fun hc => ?_)
  · have hlt : i < l.length := by omega
    have h1 : l[i]? = some l[i] := List.getElem?_eq_getElem hlt
    have h2 : m[i]? = some (m[i]'(by omega)) := List.getElem?_eq_getElem (by omega)
    obtain ⟨g1, g2⟩ := kns_get h1
    obtain ⟨g3, g4⟩ := kns_get h2
    refine needK_has (by (first | rfl | (simp; done) | (simp; omega))) ?_
    refine secK_has g1 g2 ?_
    refine needK_has (by (first | rfl | (simp; done) | (simp; omega))) ?_
    refine secK_has g3 g4 ?_
    refine bindK_has (aggK _ _) ?_
    by_cases he : l[i] = m[i]'(by omega)
    · refine boolK_has_false (by rw [decide_eq_true he]; rfl) ?_
      refine eqK_has_eq _ (i64_succ (by omega)) ?_
      refine Has.intro ⟨i + 1, ⟨hlt, fun j hj => ?_⟩, by omega, ⟨rfl, rfl, rfl, rfl, trivial⟩, rfl⟩
      by_cases e : j = i
      · subst e; rw [h1, h2, he]
      · exact hs j (by omega)
    · refine boolK_has_true (by rw [decide_eq_false he]; rfl) ?_
      (refine Has.intro (Has.intro (Has.intro ?_)))
      refine no (fun hh => he ?_)
      subst hh; rfl
  · have : i = l.length := by omega
    subst this
    (refine Has.intro (Has.intro (Has.intro ?_)))
    refine yes ?_
    apply List.ext_getElem?
    intro j
    rcases Nat.lt_or_ge j l.length with h | h
    · exact hs j h
    · rw [List.getElem?_eq_none h, List.getElem?_eq_none (by omega)]

/-! ### first -/
def kc (n : Int) : Kn := ⟨n, 1, 0, 9, 0⟩
theorem kc_ok (n : Int) : EP (EE env) 19 [.int .i64 n] = some (.agg (kn (kc n))) := by
  refine Has.eq (EP_has ?_)
  (repeat (first | refine hgetK_last ?_ | refine hgetK_set ?_ | refine hgetK_has _ rfl ?_ | refine needK_has rfl ?_ | refine getK_has rfl ?_ | refine secK_has rfl (by first | exact Nat.le_refl _ | decide) ?_ | refine eqK_has ?_))
  (refine Has.intro (Has.intro ?_))
  rfl
theorem st_lit (a b : Int) (l : List Stp) (h : (allS (kc a) (kc b) [kc a] [kc b]).take 9 = l) : EP (EE env) 10 [.agg (stC (kc a) (kc b) .nnx .nnx [kc a] [kc b] 0), .int .i64 9] = some (stl l) := by
  rw [← h]
  exact steps_ok (kc a) (kc b) .nnx .nnx [kc a] [kc b] (by simp) (by simp) (.inr (.inr rfl)) (.inr (.inr rfl)) 0 9 (by decide)
theorem apt_lit (a b c : Int) (q : Bool) (h : decide (aptL (kc a) [kc b, kc c]) = q) : EP (EE env) 11 [.agg (kn (kc a)), .sl .nnx 2 (kns [kc b, kc c])] = some (.bool q) := by
  rw [← h]; exact apt_ok (kc a) .nnx [kc b, kc c] (by show 2 ≤ maxLen; rw [maxLen_eq]; decide)
set_option maxRecDepth 10000 in
set_option maxHeartbeats 2000000 in
theorem first_ok : EP (EE env) 6 [] = some (.bool true) := by
  have h1 := st_lit 2 4 [⟨-1, 0, 4⟩, ⟨0, 0, 4⟩] (by decide +kernel)
  have h2 := st_lit 4 2 [⟨0, 0, 2⟩, ⟨-1, 0, 2⟩] (by decide +kernel)
  have h3 : EP (EE env) 14 [.agg (kn (kc 2)), .sl .nnx 1 (kns [kc 2]), .agg (sc ⟨0, 3, 5⟩)] = some (.tup [.agg (kn (kc 2)), .sl .nn 1 (kns [⟨2, 1, 0, 5, 0⟩])]) := apply_ok (kc 2) .nnx [kc 2] (.inr (.inr rfl)) (by decide) ⟨0, 3, 5⟩
  have h4 := apt_lit 4 2 2 true (by decide +kernel)
  have h5 := apt_lit 4 2 3 false (by decide +kernel)
  have h6 : EP (EE env) 13 [.int .i64 1] = some (.int .i64 10) := most_ok 1
  refine Has.eq (EP_has (fn_has rfl ?_))
  refine seq_on [] [] (Has.intro ⟨rfl, trivial, rfl⟩) (fun r => ?_)
  refine seq_on [(1, .pv (.fn 19 [] []))] [] (Has.intro ⟨rfl, ⟨rfl, trivial⟩, rfl⟩) (fun r => ?_)
  refine seq_on [(1, .pv (.fn 19 [] [])), (2, .pv (stl [⟨-1, 0, 4⟩, ⟨0, 0, 4⟩]))] [] ?_ (fun r => ?_)
  · refine callPK_has (kc_ok 2) ?_
    refine callPK_has (kc_ok 4) ?_
    refine callPK_has (kc_ok 2) ?_
    refine callPK_has (kc_ok 4) ?_
    refine callPK_has h1 ?_
    (refine Has.intro ⟨rfl, ?_, rfl⟩; (repeat (first | exact trivial | refine ⟨rfl, ?_⟩)))
  refine seq_on [(1, .pv (.fn 19 [] [])), (2, .pv (stl [⟨-1, 0, 4⟩, ⟨0, 0, 4⟩])), (3, .pv (stl [⟨0, 0, 2⟩, ⟨-1, 0, 2⟩]))] [] ?_ (fun r => ?_)
  · refine callPK_has (kc_ok 4) ?_
    refine callPK_has (kc_ok 2) ?_
    refine callPK_has (kc_ok 4) ?_
    refine callPK_has (kc_ok 2) ?_
    refine callPK_has h2 ?_
    (refine Has.intro ⟨rfl, ?_, rfl⟩; (repeat (first | exact trivial | refine ⟨rfl, ?_⟩)))
  refine seq_on [(1, .pv (.fn 19 [] [])), (2, .pv (stl [⟨-1, 0, 4⟩, ⟨0, 0, 4⟩])), (3, .pv (stl [⟨0, 0, 2⟩, ⟨-1, 0, 2⟩])), (4, .ptr 0 0), (5, .pv (.sl .nn 1 (kns [⟨2, 1, 0, 5, 0⟩])))] [.pcells (kn (kc 2))] ?_ (fun r => ?_)
  · refine callPK_has (kc_ok 2) ?_
    refine callPK_has (kc_ok 2) ?_
    refine callPK_has h3 ?_
    refine hgetK_has _ rfl ?_
    refine needK_has rfl ?_
    refine eqK_has_eq (kn (kc 2)) rfl ?_
    (refine Has.intro ⟨rfl, ?_, rfl⟩; (repeat (first | exact trivial | refine ⟨rfl, ?_⟩)))
  repeat (first
    | refine boolK_has_true rfl ?_
    | refine needK_has rfl ?_
    | refine hgetK_has _ rfl ?_
    | refine getK_has rfl ?_
    | refine secK_has rfl (by first | exact Nat.le_refl _ | decide) ?_
    | refine bindK_has (v := true) rfl ?_
    | refine callPK_has (kc_ok 4) ?_
    | refine callPK_has (kc_ok 2) ?_
    | refine callPK_has (kc_ok 3) ?_
    | refine callPK_has h4 ?_
    | refine callPK_has h5 ?_
    | refine callPK_has h6 ?_
    | refine sameK_has rfl rfl ?_)
  (refine Has.intro (Has.intro ?_))
  rfl
end Go.Proofs.Ytaiomdfajdeacaa
