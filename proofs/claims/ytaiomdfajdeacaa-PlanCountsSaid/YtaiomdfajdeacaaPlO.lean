/-
  PlanTells in the abstract machine.
-/
import Derived.Test.YtaiomdfajdeacaaPlN
set_option linter.all false
set_option linter.unusedVariables false
set_option linter.unusedSimpArgs false
set_option linter.unusedSectionVars false
namespace Go.Proofs.Ytaiomdfajdeacaa
open Go Go.VM

abbrev TK : Ty := .st [(1, .int .i64), (1, .int .i64), (1, .int .i64), (1, .int .i64), (1, .int .i64)]
abbrev TS : Ty := .st [(1, .int .i64), (1, .int .i64), (1, .int .i64)]
abbrev TC : Ty := .st [(5, TK), (5, TK), (1, .sl 5 TK), (1, .sl 5 TK), (1, .int .i64)]
theorem arg_kn {cs : List PV} (h : HasTy TK cs) : ∃ k : Kn, cs = kn k := by
  obtain ⟨a1, b1, rfl, l1, h1, a2, b2, rfl, l2, h2, a3, b3, rfl, l3, h3, a4, b4, rfl, l4, h4, a5, b5, rfl, l5, h5, rfl⟩ := h
  obtain ⟨q1, rfl⟩ := list1 l1
  obtain ⟨q2, rfl⟩ := list1 l2
  obtain ⟨q3, rfl⟩ := list1 l3
  obtain ⟨q4, rfl⟩ := list1 l4
  obtain ⟨q5, rfl⟩ := list1 l5
  obtain ⟨n1, rfl, _⟩ := arg_i64 h1
  obtain ⟨n2, rfl, _⟩ := arg_i64 h2
  obtain ⟨n3, rfl, _⟩ := arg_i64 h3
  obtain ⟨n4, rfl, _⟩ := arg_i64 h4
  obtain ⟨n5, rfl, _⟩ := arg_i64 h5
  exact ⟨⟨n1, n2, n3, n4, n5⟩, rfl⟩
theorem arg_st {cs : List PV} (h : HasTy TS cs) : ∃ s : Stp, cs = sc s := by
  obtain ⟨a1, b1, rfl, l1, h1, a2, b2, rfl, l2, h2, a3, b3, rfl, l3, h3, rfl⟩ := h
  obtain ⟨q1, rfl⟩ := list1 l1
  obtain ⟨q2, rfl⟩ := list1 l2
  obtain ⟨q3, rfl⟩ := list1 l3
  obtain ⟨n1, rfl, _⟩ := arg_i64 h1
  obtain ⟨n2, rfl, _⟩ := arg_i64 h2
  obtain ⟨n3, rfl, _⟩ := arg_i64 h3
  exact ⟨⟨n1, n2, n3⟩, rfl⟩
theorem arg_kns : ∀ (n : Nat) (cs : List PV), Els (HasTy TK) 5 n cs → ∃ l : List Kn, l.length = n ∧ cs = kns l := by
  intro n
  induction n with
  | zero => intro cs h; exact ⟨[], rfl, h⟩
  | succ n ih =>
    intro cs ⟨a, b, h1, h2, h3, h4⟩
    obtain ⟨l, g1, g2⟩ := ih b h4
    obtain ⟨k, rfl⟩ := arg_kn h3
    exact ⟨k :: l, by simp [g1], by rw [h1, g2]; rfl⟩
theorem arg_ls {cs : List PV} (h : HasTy (.sl 5 TK) cs) : ∃ x l, cs = [.sl x l.length (kns l)] ∧ okX x l ∧ l.length ≤ maxLen := by
  obtain ⟨x, len, cells, rfl, e2, e3, e4⟩ := h
  obtain ⟨l, rfl, rfl⟩ := arg_kns _ _ e4
  refine ⟨x, l, rfl, ?_, e3⟩
  rcases e2 with ⟨h1, h2, _⟩ | h
  · exact .inl ⟨h1, List.eq_nil_of_length_eq_zero h2⟩
  · exact .inr (.inl h)
theorem arg_tc {cs : List PV} (h : HasTy TC cs) : ∃ pod podTo x y now to most, cs = stC pod podTo x y now to most ∧ okX x now ∧ okX y to ∧ now.length ≤ maxLen ∧ to.length ≤ maxLen := by
  obtain ⟨a1, b1, rfl, l1, h1, a2, b2, rfl, l2, h2, a3, b3, rfl, l3, h3, a4, b4, rfl, l4, h4, a5, b5, rfl, l5, h5, rfl⟩ := h
  obtain ⟨pod, rfl⟩ := arg_kn h1
  obtain ⟨podTo, rfl⟩ := arg_kn h2
  obtain ⟨x, now, rfl, k1, k2⟩ := arg_ls h3
  obtain ⟨y, to, rfl, k3, k4⟩ := arg_ls h4
  obtain ⟨q5, rfl⟩ := list1 l5
  obtain ⟨most, rfl, _⟩ := arg_i64 h5
  exact ⟨pod, podTo, x, y, now, to, most, rfl, k1, k3, k2, k4⟩

theorem kmin' (c most : Int) : (bif false then (if c > most then c else most) else (if c < most then c else most)) = min most c := by
  simp only [cond_false]; split <;> omega
theorem kmax' (n : Int) : (bif true then (if n > (0 : Int) then n else (0 : Int)) else (if n < (0 : Int) then n else (0 : Int))) = ((max 0 n).toNat : Int) := by
  simp only [cond_true]; split <;> omega
theorem allS_len {pod podTo : Kn} {now to : List Kn} (hl : now.length ≤ 12) : (allS pod podTo now to).length ≤ 65 := by
  have h : ∀ m p l, (run podTo to m p l).length ≤ m := by
    intro m
    induction m with
    | zero => intro p l; exact Nat.le_refl _
    | succ m ih =>
      intro p l
      unfold run
      cases nxt p podTo l to with
      | none => exact Nat.zero_le _
      | some s => exact Nat.succ_le_succ (ih _ _)
  have := h (D pod podTo now to) pod now
  have := df_le pod podTo
  have := dl_le now to
  show (run podTo to _ pod now).length ≤ 65
  unfold D at *; omega
theorem stl_sl (l : List Stp) : ∃ e, stl l = .sl e l.length (flat sc l) := ⟨_, rfl⟩
theorem apx (x : Ext) (l : List Kn) (A : Kn × List Kn) : apP x l A = .tup [.agg (kn A.1), .sl (cpx x l) l.length (kns A.2)] := rfl

set_option maxRecDepth 4000 in
set_option maxHeartbeats 1000000 in
theorem tells_ok (ps : List PV) (h : HasArgs [TC, TS] ps) : ∃ H', EE env (.fn 3) (ps.map .pv) [] = some (.pv (.bool true), H') := by
  obtain ⟨p1, _, rfl, ⟨cs, rfl, h⟩, p2, _, rfl, ⟨cs2, rfl, h2⟩, rfl⟩ := h
  obtain ⟨pod, podTo, x, y, now, to, most, rfl, hx, hy, hm1, hm2⟩ := arg_tc h
  obtain ⟨s, rfl⟩ := arg_st h2
  clear h h2
  rw [maxLen_eq] at hm1 hm2
  refine law_end (EE_has (fn_has rfl ?_))
  refine seq_on [(2, .ptr 0 0), (3, .ptr 1 0)] ([(HObj.pcells (stC pod podTo x y now to most)), .pcells (sc s)]) (Has.intro ⟨rfl, ⟨rfl, rfl, trivial⟩, rfl⟩) (fun r => ?_)
  refine seq_on [(2, .ptr 0 0), (3, .ptr 1 0)] ([(HObj.pcells (stC pod podTo x y now to most)), .pcells (sc s)]) ?_ (fun r => ?_)
  · refine callPK_has first_ok ?_
    (refine Has.intro ⟨rfl, ?_, rfl⟩; (repeat (first | exact trivial | refine ⟨rfl, ?_⟩)))
  by_cases hb : now.length > 12 ∨ to.length > 12
  · ((refine hgetK_has (HObj.pcells (stC pod podTo x y now to most)) rfl ?_); refine getK_has rfl ?_)
    refine boolK_dec (fun h1 => ?_) (fun h1 => ?_)
    · exact Has.intro rfl
    · ((refine hgetK_has (HObj.pcells (stC pod podTo x y now to most)) rfl ?_); refine getK_has rfl ?_)
      refine boolK_dec_t (by omega) ?_
      exact Has.intro rfl
  have hl : now.length ≤ 12 := by omega
  have hl2 : to.length ≤ 12 := by omega
  refine seq_on [(2, .ptr 0 0), (3, .ptr 1 0)] ([(HObj.pcells (stC pod podTo x y now to most)), .pcells (sc s)]) ?_ (fun r => ?_)
  · ((refine hgetK_has (HObj.pcells (stC pod podTo x y now to most)) rfl ?_); refine getK_has rfl ?_)
    refine boolK_dec_f (by omega) ?_
    ((refine hgetK_has (HObj.pcells (stC pod podTo x y now to most)) rfl ?_); refine getK_has rfl ?_)
    refine boolK_dec_f (by omega) ?_
    (refine Has.intro ⟨rfl, ?_, rfl⟩; (repeat (first | exact trivial | refine ⟨rfl, ?_⟩)))
  have hn := next_ok pod podTo x y now to (by rw [maxLen_eq]; omega)
  have hrn := rnext_ok pod podTo x y now to (by omega)
  have hrs := rsteps_ok pod podTo x y now to hl
  have hst := steps_ok pod podTo x y now to hl hl2 hx hy most (max 0 (min most 100)).toNat (by omega)
  have hapt := apt_ok pod x now (by rw [maxLen_eq]; omega)
  have hrapt := rapt_ok pod x now (by rw [maxLen_eq]; omega)
  have hmost := most_ok most
  have hap := apply_ok pod x now hx (by omega) s
  have hrap := rapply_ok pod x now (by omega) s
  have hal := ap_len pod now s
  have hall := allS_len (pod := pod) (podTo := podTo) (to := to) hl
  obtain ⟨e1, he1⟩ := stl_sl (allS pod podTo now to)
  obtain ⟨e2, he2⟩ := stl_sl ((allS pod podTo now to).take (max 0 (min most 100)).toNat)
  rw [he1] at hrs
  rw [he2] at hst
  rw [apx] at hap
  generalize hO : nxt pod podTo now to = O at *
  generalize hQ : decide (aptL pod now) = Q at *
  generalize hA : ap pod now s = A at *
  generalize hS : allS pod podTo now to = S at *
  have hsl : (S.take (max 0 (min most 100)).toNat).length = min (max 0 (min most 100)).toNat S.length := List.length_take
  generalize hK : (max 0 (min most 100)).toNat = K at *
  have hK100 : K ≤ 100 := by omega
  refine seq_on [(2, .ptr 0 0), (3, .ptr 1 0), (5, .ptr 2 0), (6, .pv (.bool O.isSome))] [(HObj.pcells (stC pod podTo x y now to most)), .pcells (sc s), .pcells (sc (so O))] ?_ (fun r => ?_)
  · ((refine hgetK_has (HObj.pcells (stC pod podTo x y now to most)) rfl ?_); refine secK_has (v := kn pod) rfl (by show 5 ≤ 13; decide) ?_)
    ((refine hgetK_has (HObj.pcells (stC pod podTo x y now to most)) rfl ?_); refine secK_has (v := kn podTo) rfl (by show 10 ≤ 13; decide) ?_)
    ((refine hgetK_has (HObj.pcells (stC pod podTo x y now to most)) rfl ?_); refine getK_has rfl ?_)
    ((refine hgetK_has (HObj.pcells (stC pod podTo x y now to most)) rfl ?_); refine getK_has rfl ?_)
    refine callPK_has hn ?_
    refine hgetK_has _ rfl ?_
    refine needK_has rfl ?_
    refine eqK_has_eq (sc (so O)) rfl ?_
    (refine Has.intro ⟨rfl, ?_, rfl⟩; (repeat (first | exact trivial | refine ⟨rfl, ?_⟩)))
  refine seq_on [(2, .ptr 0 0), (3, .ptr 1 0), (5, .ptr 2 0), (6, .pv (.bool O.isSome)), (7, .ptr 3 0), (8, .pv (.bool O.isSome))] [(HObj.pcells (stC pod podTo x y now to most)), .pcells (sc s), .pcells (sc (so O)), .pcells (sc (so O))] ?_ (fun r => ?_)
  · ((refine hgetK_has (HObj.pcells (stC pod podTo x y now to most)) rfl ?_); refine secK_has (v := kn pod) rfl (by show 5 ≤ 13; decide) ?_)
    ((refine hgetK_has (HObj.pcells (stC pod podTo x y now to most)) rfl ?_); refine secK_has (v := kn podTo) rfl (by show 10 ≤ 13; decide) ?_)
    ((refine hgetK_has (HObj.pcells (stC pod podTo x y now to most)) rfl ?_); refine getK_has rfl ?_)
    ((refine hgetK_has (HObj.pcells (stC pod podTo x y now to most)) rfl ?_); refine getK_has rfl ?_)
    refine callPK_has hrn ?_
    refine hgetK_has _ rfl ?_
    refine needK_has rfl ?_
    refine eqK_has_eq (sc (so O)) rfl ?_
    (refine Has.intro ⟨rfl, ?_, rfl⟩; (repeat (first | exact trivial | refine ⟨rfl, ?_⟩)))
  refine seq_on [(2, .ptr 0 0), (3, .ptr 1 0), (5, .ptr 2 0), (6, .pv (.bool O.isSome)), (7, .ptr 3 0), (8, .pv (.bool O.isSome)), (9, .pv (.sl e1 S.length (flat sc S)))] ([(HObj.pcells (stC pod podTo x y now to most)), .pcells (sc s), .pcells (sc (so O)), .pcells (sc (so O))]) ?_ (fun r => ?_)
  · ((refine hgetK_has (HObj.pcells (stC pod podTo x y now to most)) rfl ?_); refine secK_has (v := kn pod) rfl (by show 5 ≤ 13; decide) ?_)
    ((refine hgetK_has (HObj.pcells (stC pod podTo x y now to most)) rfl ?_); refine secK_has (v := kn podTo) rfl (by show 10 ≤ 13; decide) ?_)
    ((refine hgetK_has (HObj.pcells (stC pod podTo x y now to most)) rfl ?_); refine getK_has rfl ?_)
    ((refine hgetK_has (HObj.pcells (stC pod podTo x y now to most)) rfl ?_); refine getK_has rfl ?_)
    refine callPK_has hrs ?_
    (refine Has.intro ⟨rfl, ?_, rfl⟩; (repeat (first | exact trivial | refine ⟨rfl, ?_⟩)))
  refine seq_on [(2, .ptr 0 0), (3, .ptr 1 0), (5, .ptr 2 0), (6, .pv (.bool O.isSome)), (7, .ptr 3 0), (8, .pv (.bool O.isSome)), (9, .pv (.sl e1 S.length (flat sc S))), (10, .pv (.int .i64 (K : Int)))] ([(HObj.pcells (stC pod podTo x y now to most)), .pcells (sc s), .pcells (sc (so O)), .pcells (sc (so O))]) ?_ (fun r => ?_)
  · ((refine hgetK_has (HObj.pcells (stC pod podTo x y now to most)) rfl ?_); refine getK_has rfl ?_)
    refine eqK_has_eq _ (kmin' 100 most) ?_
    refine eqK_has_eq (K : Int) (by rw [kmax', hK]) ?_
    (refine Has.intro ⟨rfl, ?_, rfl⟩; (repeat (first | exact trivial | refine ⟨rfl, ?_⟩)))
  refine seq_on [(2, .ptr 0 0), (3, .ptr 1 0), (5, .ptr 2 0), (6, .pv (.bool O.isSome)), (7, .ptr 3 0), (8, .pv (.bool O.isSome)), (9, .pv (.sl e1 S.length (flat sc S))), (10, .pv (.int .i64 (K : Int))), (11, .pv (.sl e2 (S.take K).length (flat sc (S.take K))))] ([(HObj.pcells (stC pod podTo x y now to most)), .pcells (sc s), .pcells (sc (so O)), .pcells (sc (so O))]) ?_ (fun r => ?_)
  · refine hgetK_has (HObj.pcells (stC pod podTo x y now to most)) rfl ?_
    refine secK_has (v := stC pod podTo x y now to most) rfl (Nat.le_refl 13) ?_
    refine callPK_has hst ?_
    (refine Has.intro ⟨rfl, ?_, rfl⟩; (repeat (first | exact trivial | refine ⟨rfl, ?_⟩)))
  refine seq_on [(2, .ptr 0 0), (3, .ptr 1 0), (9, .pv (.sl e1 S.length (flat sc S))), (11, .pv (.sl e2 (S.take K).length (flat sc (S.take K))))] ([(HObj.pcells (stC pod podTo x y now to most)), .pcells (sc s), .pcells (sc (so O)), .pcells (sc (so O))]) ?_ (fun r => ?_)
  · refine hgetK_has _ rfl ?_
    refine secK_has (v := sc (so O)) rfl (Nat.le_refl 3) ?_
    refine hgetK_has _ rfl ?_
    refine secK_has (v := sc (so O)) rfl (Nat.le_refl 3) ?_
    refine bindK_has (aggS _ _) ?_
    refine boolK_has_false (by rw [decide_eq_true rfl]; rfl) ?_
    refine boolK_has_eq (c := false) (by cases O.isSome <;> rfl) ?_
    ((refine hgetK_has (HObj.pcells (stC pod podTo x y now to most)) rfl ?_); refine secK_has (v := kn pod) rfl (by show 5 ≤ 13; decide) ?_)
    ((refine hgetK_has (HObj.pcells (stC pod podTo x y now to most)) rfl ?_); refine getK_has rfl ?_)
    refine callPK_has hapt ?_
    ((refine hgetK_has (HObj.pcells (stC pod podTo x y now to most)) rfl ?_); refine secK_has (v := kn pod) rfl (by show 5 ≤ 13; decide) ?_)
    ((refine hgetK_has (HObj.pcells (stC pod podTo x y now to most)) rfl ?_); refine getK_has rfl ?_)
    refine callPK_has hrapt ?_
    refine boolK_has_eq (c := false) (by cases Q <;> rfl) ?_
    refine eqK_has_eq ((min K S.length : Nat) : Int) (by rw [kmin']; omega) ?_
    refine boolK_bne_f (by rw [hsl]) ?_
    ((refine hgetK_has (HObj.pcells (stC pod podTo x y now to most)) rfl ?_); refine getK_has rfl ?_)
    refine callPK_has hmost ?_
    ((refine hgetK_has (HObj.pcells (stC pod podTo x y now to most)) rfl ?_); refine getK_has rfl ?_)
    refine eqK_has_eq _ (kmin' 1000 most) ?_
    refine eqK_has_eq (clampN most : Int) (by rw [kmax']; rfl) ?_
    have hcl : clampN most ≤ 1000 := by unfold clampN; omega
    refine eqK_has_eq _ (wrap_i64 (by omega) (by omega)) ?_
    refine eqK_has_eq _ (wrap_i64 (by omega) (by omega)) ?_
    refine boolK_bne_f rfl ?_
    (refine Has.intro ⟨rfl, ?_, rfl⟩; (repeat (first | exact trivial | refine ⟨rfl, ?_⟩)))
  refine seq_on [(2, .ptr 0 0), (3, .ptr 1 0)] ([(HObj.pcells (stC pod podTo x y now to most)), .pcells (sc s), .pcells (sc (so O)), .pcells (sc (so O))]) ?_ (fun r => ?_)
  · refine loopK_has ?_
    refine iterE_up (S.take K).length (fun i => [(2, .ptr 0 0), (3, .ptr 1 0), (9, .pv (.sl e1 S.length (flat sc S))), (11, .pv (.sl e2 (S.take K).length (flat sc (S.take K)))), (112, .pv (.int .i64 (S.take K).length)), (113, .pv (.int .i64 i))]) (fun _ => ([(HObj.pcells (stC pod podTo x y now to most)), .pcells (sc s), .pcells (sc (so O)), .pcells (sc (so O))])) (fun i hi r => ?_) (fun r => ?_) ⟨rfl, rfl, rfl, rfl, rfl, rfl, trivial⟩ rfl
    · obtain ⟨a, ha⟩ : ∃ a, (S.take K)[i]? = some a := ⟨_, List.getElem?_eq_getElem hi⟩
      have ha2 : S[i]? = some a := by
        rw [List.getElem?_take] at ha
        split at ha
        · exact ha
        · cases ha
      obtain ⟨g1, g2⟩ := flat_get sc_len ha
      obtain ⟨g3, g4⟩ := flat_get sc_len ha2
      refine boolK_dec_t (by omega) ?_
      refine needK_has (by (first | rfl | (simp; done) | (simp; omega))) ?_
      refine secK_has g1 g2 ?_
      refine needK_has (by (first | rfl | (simp; done) | (simp; omega))) ?_
      refine secK_has g3 g4 ?_
      refine bindK_has (aggS _ _) ?_
      refine boolK_has_false (by rw [decide_eq_true rfl]; rfl) ?_
      refine eqK_has_eq _ (i64_succ (by omega)) ?_
      exact Has.intro ⟨⟨rfl, rfl, rfl, rfl, rfl, rfl, trivial⟩, rfl⟩
    refine boolK_dec_f (by omega) ?_
    refine Has.intro ?_
    exact Has.intro ⟨rfl, ⟨rfl, rfl, trivial⟩, rfl⟩
  refine seq_on [(2, .ptr 0 0), (3, .ptr 1 0), (13, .ptr 4 0), (14, .pv (.sl (cpx x now) now.length (kns A.2)))] [(HObj.pcells (stC pod podTo x y now to most)), .pcells (sc s), .pcells (sc (so O)), .pcells (sc (so O)), .pcells (kn A.1)] ?_ (fun r => ?_)
  · ((refine hgetK_has (HObj.pcells (stC pod podTo x y now to most)) rfl ?_); refine secK_has (v := kn pod) rfl (by show 5 ≤ 13; decide) ?_)
    ((refine hgetK_has (HObj.pcells (stC pod podTo x y now to most)) rfl ?_); refine getK_has rfl ?_)
    refine hgetK_has _ rfl ?_
    refine secK_has (v := sc s) rfl (Nat.le_refl 3) ?_
    refine callPK_has hap ?_
    refine hgetK_has _ rfl ?_
    refine needK_has rfl ?_
    refine eqK_has_eq (kn A.1) rfl ?_
    (refine Has.intro ⟨rfl, ?_, rfl⟩; (repeat (first | exact trivial | refine ⟨rfl, ?_⟩)))
  refine seq_on [(13, .ptr 4 0), (14, .pv (.sl (cpx x now) now.length (kns A.2))), (15, .ptr 5 0), (16, .pv (.sl (rpx now) now.length (kns A.2)))] [(HObj.pcells (stC pod podTo x y now to most)), .pcells (sc s), .pcells (sc (so O)), .pcells (sc (so O)), .pcells (kn A.1), .pcells (kn A.1)] ?_ (fun r => ?_)
  · ((refine hgetK_has (HObj.pcells (stC pod podTo x y now to most)) rfl ?_); refine secK_has (v := kn pod) rfl (by show 5 ≤ 13; decide) ?_)
    ((refine hgetK_has (HObj.pcells (stC pod podTo x y now to most)) rfl ?_); refine getK_has rfl ?_)
    refine hgetK_has _ rfl ?_
    refine secK_has (v := sc s) rfl (Nat.le_refl 3) ?_
    refine callPK_has hrap ?_
    refine hgetK_has _ rfl ?_
    refine needK_has rfl ?_
    refine eqK_has_eq (kn A.1) rfl ?_
    (refine Has.intro ⟨rfl, ?_, rfl⟩; (repeat (first | exact trivial | refine ⟨rfl, ?_⟩)))
  have hsame := same_ok (cpx x now) (rpx now) A.2 A.2 (by omega)
  rw [hal, decide_eq_true rfl] at hsame
  refine hgetK_has _ rfl ?_
  refine secK_has (v := kn A.1) rfl (Nat.le_refl 5) ?_
  refine hgetK_has _ rfl ?_
  refine secK_has (v := kn A.1) rfl (Nat.le_refl 5) ?_
  refine bindK_has (aggK _ _) ?_
  refine boolK_has_true (decide_eq_true rfl) ?_
  refine callPK_has hsame ?_
  exact Has.intro rfl
end Go.Proofs.Ytaiomdfajdeacaa
