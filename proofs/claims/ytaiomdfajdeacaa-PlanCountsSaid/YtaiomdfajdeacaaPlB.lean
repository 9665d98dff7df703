/-
  The document's answer on what is apt; the first file that goes some way.
-/
import Derived.Test.YtaiomdfajdeacaaPlA
set_option linter.all false
set_option linter.unusedVariables false
set_option linter.unusedSimpArgs false
set_option linter.unusedSectionVars false
namespace Go.Proofs.Ytaiomdfajdeacaa
open Go Go.VM

theorem aptL_mono {pod : Kn} {l : List Kn} {m : Nat} (h : aptL pod (l.take (m + 1))) : aptL pod (l.take m) := by
  have e : l.take m = (l.take (m + 1)).take m := by rw [List.take_take]; congr 1; omega
  refine ⟨h.1, fun k hk => h.2.1 k (by rw [e] at hk; exact List.mem_of_mem_take hk), h.2.2.imp id fun h2 => ?_⟩
  have := sumC_le (l := l.take (m + 1)) (fun k hk => (right_c (h.2.1 k hk).1).1) m
  rw [← e] at this
  omega
theorem rapt_ok (pod : Kn) (x : Ext) (l : List Kn) (hl : l.length ≤ maxLen) : EP (EE env) 12 [.agg (kn pod), .sl x l.length (kns l)] = some (.bool (decide (aptL pod l))) := by
  rw [maxLen_eq] at hl
  refine Has.eq (EP_has ?_)
  refine hgetK_has _ rfl ?_
  refine secK_has (v := kn pod) rfl (Nat.le_refl _) ?_
  refine callPK_has (rright_ok pod) ?_
  refine loopK_has ?_
  refine iterE_loopJ (σ := Nat × Int × Bool) (fun s => l.length - s.1) (fun s => [(2, .ptr 0 0), (5, .pv (.bool s.2.2)), (6, .pv (.int .i64 s.2.1)), (11, .pv (.sl x l.length (kns l))), (12, .pv (.int .i64 l.length)), (13, .pv (.int .i64 s.1))])
    (fun _ => [.pcells (kn pod)]) (fun s => s.1 ≤ l.length ∧ s.2.2 = decide (aptL pod (l.take s.1)) ∧ (s.2.2 = true → s.2.1 = if pod.c = ((4611686018427387904 : Int)) then 0 else sumC (l.take s.1))) (fun ⟨m, s, b⟩ ⟨hm, hb, hs⟩ r J => ?_) (0, 0, decide (right pod)) ⟨Nat.zero_le _, by
      dsimp only
      exact decide_eq_decide.2 ⟨fun h => ⟨h, fun k hk => by simp at hk, by have := right_c h; simp [sumC]; omega⟩, fun h => h.1⟩, fun _ => by simp [sumC]⟩ [] ⟨rfl, rfl, rfl, rfl, rfl, rfl, trivial⟩ rfl
  dsimp only at hm hb hs ⊢
  refine boolK_dec (fun hc => ?_) (fun hc => ?_)
  · have hlt : m < l.length := by omega
    obtain ⟨k, hk⟩ : ∃ k, l[m]? = some k := ⟨l[m], List.getElem?_eq_getElem hlt⟩
    obtain ⟨g1, g2⟩ := kns_get hk
    have hst := sumC_take hk
    have hin : k ∈ l.take (m + 1) := by rw [List.take_add_one, hk]; simp
    refine needK_has (by (first | rfl | (simp; done) | (simp; omega))) ?_
    refine secK_has g1 g2 ?_
    refine hgetK_last ?_
    refine needK_has rfl ?_
    refine eqK_has_eq (kn k) rfl ?_
    cases b with
    | false =>
      (refine eqK_has_eq _ (i64_succ (by omega)) ?_; refine Has.intro ⟨(m + 1, s, false), ⟨hlt, (decide_eq_false (fun h => ?_)).symm, fun h => by cases h⟩, by dsimp only; omega, ⟨rfl, rfl, rfl, rfl, rfl, rfl, trivial⟩, _, rfl⟩)
      have := aptL_mono h
      rw [decide_eq_true this] at hb
      cases hb
    | true =>
      have ha := of_decide_eq_true hb.symm
      have hs := hs rfl
      have hnn : 0 ≤ sumC (l.take m) := sumC_pos fun k hk => (right_c (ha.2.1 k hk).1).1
      have hpc := right_c ha.1
      refine hgetK_set ?_
      refine secK_has (v := kn k) rfl (Nat.le_refl _) ?_
      refine callPK_dec (rright_ok k) (fun hrk => ?_) (fun hrk => ?_)
      rotate_left
      · (refine eqK_has_eq _ (i64_succ (by omega)) ?_; refine Has.intro ⟨(m + 1, s, false), ⟨hlt, (decide_eq_false (fun h => ?_)).symm, fun h => by cases h⟩, by dsimp only; omega, ⟨rfl, rfl, rfl, rfl, rfl, rfl, trivial⟩, _, rfl⟩)
        exact hrk (h.2.1 k hin).1
      have hkc := right_c hrk
      ((first | refine hgetK_set ?_ | refine hgetK_has _ rfl ?_); refine getK_has rfl ?_)
      ((first | refine hgetK_set ?_ | refine hgetK_has _ rfl ?_); refine getK_has rfl ?_)
      refine boolK_dec (fun h1 => ?_) (fun h1 => ?_)
      rotate_left
      · (refine eqK_has_eq _ (i64_succ (by omega)) ?_; refine Has.intro ⟨(m + 1, s, false), ⟨hlt, (decide_eq_false (fun h => ?_)).symm, fun h => by cases h⟩, by dsimp only; omega, ⟨rfl, rfl, rfl, rfl, rfl, rfl, trivial⟩, _, rfl⟩)
        exact h1 (h.2.1 k hin).2.1
      ((first | refine hgetK_set ?_ | refine hgetK_has _ rfl ?_); refine getK_has rfl ?_)
      ((first | refine hgetK_set ?_ | refine hgetK_has _ rfl ?_); refine getK_has rfl ?_)
      refine boolK_dec (fun h2 => ?_) (fun h2 => ?_)
      rotate_left
      · (refine eqK_has_eq _ (i64_succ (by omega)) ?_; refine Has.intro ⟨(m + 1, s, false), ⟨hlt, (decide_eq_false (fun h => ?_)).symm, fun h => by cases h⟩, by dsimp only; omega, ⟨rfl, rfl, rfl, rfl, rfl, rfl, trivial⟩, _, rfl⟩)
        exact h2 (h.2.1 k hin).2.2.1
      ((first | refine hgetK_set ?_ | refine hgetK_has _ rfl ?_); refine getK_has rfl ?_)
      ((first | refine hgetK_set ?_ | refine hgetK_has _ rfl ?_); refine getK_has rfl ?_)
      refine boolK_dec (fun h3 => ?_) (fun h3 => ?_)
      rotate_left
      · (refine eqK_has_eq _ (i64_succ (by omega)) ?_; refine Has.intro ⟨(m + 1, s, false), ⟨hlt, (decide_eq_false (fun h => ?_)).symm, fun h => by cases h⟩, by dsimp only; omega, ⟨rfl, rfl, rfl, rfl, rfl, rfl, trivial⟩, _, rfl⟩)
        exact h3 (h.2.1 k hin).2.2.2.1
      ((first | refine hgetK_set ?_ | refine hgetK_has _ rfl ?_); refine getK_has rfl ?_)
      ((first | refine hgetK_set ?_ | refine hgetK_has _ rfl ?_); refine getK_has rfl ?_)
      refine boolK_dec (fun h4 => ?_) (fun h4 => ?_)
      rotate_left
      · (refine eqK_has_eq _ (i64_succ (by omega)) ?_; refine Has.intro ⟨(m + 1, s, false), ⟨hlt, (decide_eq_false (fun h => ?_)).symm, fun h => by cases h⟩, by dsimp only; omega, ⟨rfl, rfl, rfl, rfl, rfl, rfl, trivial⟩, _, rfl⟩)
        exact h4 (h.2.1 k hin).2.2.2.2
      have hfit' : ∀ k' ∈ l.take (m + 1), fitK pod k' := fun k' hk' => by
        rw [List.take_add_one, hk] at hk'
        rcases List.mem_append.1 hk' with h | h
        · exact ha.2.1 k' h
        · simp at h; subst h; exact ⟨hrk, by omega, by omega, by omega, by omega⟩
      ((first | refine hgetK_set ?_ | refine hgetK_has _ rfl ?_); refine getK_has rfl ?_)
      refine boolK_dec (fun h5 => ?_) (fun h5 => ?_)
      · ((first | refine hgetK_set ?_ | refine hgetK_has _ rfl ?_); refine getK_has rfl ?_)
        have hs' : sumC (l.take m) ≤ pod.c := ha.2.2.resolve_left (by omega)
        rw [if_neg (by omega)] at hs
        subst hs
        refine eqK_has_eq (sumC (l.take (m + 1))) ((wrap_i64 (by omega) (by omega)).trans (by omega)) ?_
        ((first | refine hgetK_set ?_ | refine hgetK_has _ rfl ?_); refine getK_has rfl ?_)
        refine boolK_dec (fun h6 => ?_) (fun h6 => ?_)
        · refine eqK_has_eq _ (i64_succ (by omega)) ?_
          refine Has.intro ⟨(m + 1, sumC (l.take (m + 1)), true), ⟨hlt, (decide_eq_true ⟨ha.1, hfit', .inr (by omega)⟩).symm, fun _ => by dsimp only; rw [if_neg (by omega)]⟩, by dsimp only; omega, ⟨rfl, rfl, rfl, rfl, rfl, rfl, trivial⟩, _, rfl⟩
        · refine eqK_has_eq _ (i64_succ (by omega)) ?_
          refine Has.intro ⟨(m + 1, sumC (l.take (m + 1)), false), ⟨hlt, (decide_eq_false (fun h => ?_)).symm, fun h => by cases h⟩, by dsimp only; omega, ⟨rfl, rfl, rfl, rfl, rfl, rfl, trivial⟩, _, rfl⟩
          exact h6 (h.2.2.resolve_left (by omega))
      · have h5' : pod.c = ((4611686018427387904 : Int)) := by omega
        rw [if_pos h5'] at hs
        refine eqK_has_eq _ (i64_succ (by omega)) ?_
        refine Has.intro ⟨(m + 1, s, true), ⟨hlt, (decide_eq_true ⟨ha.1, hfit', .inl h5'⟩).symm, fun _ => by dsimp only; rw [if_pos h5', hs]⟩, by dsimp only; omega, ⟨rfl, rfl, rfl, rfl, rfl, rfl, trivial⟩, _, rfl⟩
  · have : m = l.length := by omega
    subst this
    rw [List.take_length] at hb
    (refine Has.intro (Has.intro (Has.intro ?_)))
    rw [hb]

/-! ### the first file that goes some way -/
structure Stp where
  who : Int
  f : Int
  n : Int
def sc (s : Stp) : List PV := [.int .i64 s.who, .int .i64 s.f, .int .i64 s.n]
def so (o : Option Stp) : Stp := o.getD ⟨0, 0, 0⟩
def op (o : Option Stp) : PV := .tup [.agg (sc (so o)), .bool o.isSome]
/-- Does a file go that way? -/
def goes (way : Int) (a b : Int) : Prop := (way = 0 ∧ a > b) ∨ (way = 1 ∧ a < b)
instance (way a b : Int) : Decidable (goes way a b) := by unfold goes; infer_instance
def fst (who : Int) (k to : Kn) (o : List Int) (way : Int) : Option Stp := o.findSome? fun f => if goes way (at_ k f) (at_ to f) then some ⟨who, f, at_ to f⟩ else none
theorem find_some {α β : Type} {g : α → Option β} {l : List α} {i : Nat} {a : α} {x : β} (h : l[i]? = some a) (h0 : (l.take i).findSome? g = none) (hx : g a = some x) : l.findSome? g = some x := by
  have e : l = l.take i ++ (a :: l.drop (i + 1)) := by
    have hi := (List.getElem?_eq_some_iff.1 h)
    obtain ⟨hi, rfl⟩ := hi
    rw [← List.drop_eq_getElem_cons hi, List.take_append_drop]
  rw [e, List.findSome?_append, h0, List.findSome?_cons, hx]; rfl
theorem find_none {α β : Type} {g : α → Option β} {l : List α} {i : Nat} {a : α} (h : l[i]? = some a) (h0 : (l.take i).findSome? g = none) (hx : g a = none) : (l.take (i + 1)).findSome? g = none := by
  rw [List.take_add_one, h, List.findSome?_append, h0]
  simp [hx]
theorem list4 {l : List Int} (h : l.length = 4) : ∃ a b c d, l = [a, b, c, d] := by
  match l, h with
  | [a, b, c, d], _ => exact ⟨a, b, c, d, rfl⟩
theorem first_ok' (who : Int) (k to : Kn) (o : List Int) (ho : o.length = 4) (way : Int) : EP (EE env) 23 [.int .i64 who, .agg (kn k), .agg (kn to), .agg (ints o), .int .i64 way] = some (op (fst who k to o way)) := by
  refine Has.eq (EP_has ?_)
  refine hgetK_has _ rfl ?_
  refine secK_has (v := ints o) (by rw [List.drop_zero]; exact List.take_of_length_le (by rw [ints_len]; omega)) (by rw [ints_len]; omega) ?_
  refine loopK_has ?_
  refine iterE_loop (σ := Nat) (fun m => 4 - m) (fun m => [(0, .pv (.int .i64 who)), (4, .pv (.int .i64 way)), (6, .ptr 0 0), (7, .ptr 1 0), (10, .ptr 3 0), (16, .pv (.agg (ints o))), (17, .pv (.int .i64 m))])
    (fun _ => [.pcells (kn k), .pcells (kn to), .pcells (ints o), .pcells (sc ⟨0, 0, 0⟩)]) (fun m => m ≤ 4 ∧ fst who k to (o.take m) way = none) (fun m ⟨hm, hno⟩ r => ?_) 0 ⟨Nat.zero_le _, rfl⟩ ⟨rfl, rfl, rfl, rfl, rfl, rfl, rfl, trivial⟩ rfl
  refine boolK_dec (fun hc => ?_) (fun hc => ?_)
  · have hlt : m < 4 := by omega
    obtain ⟨f, hf⟩ : ∃ f, o[m]? = some f := ⟨_, List.getElem?_eq_getElem (by omega)⟩
    refine needK_has (by (first | rfl | (simp; done) | (simp; omega))) ?_
    refine getK_has (ints_get hf) ?_
    refine hgetK_has _ rfl ?_
    refine secK_has (v := kn k) rfl (Nat.le_refl _) ?_
    refine callPK_has (at_ok k f) ?_
    refine hgetK_has _ rfl ?_
    refine secK_has (v := kn to) rfl (Nat.le_refl _) ?_
    refine callPK_has (at_ok to f) ?_
    have hyes : goes way (at_ k f) (at_ to f) → fst who k to o way = some ⟨who, f, at_ to f⟩ := fun h => find_some hf hno (if_pos h)
    have hnot : ¬ goes way (at_ k f) (at_ to f) → fst who k to (o.take (m + 1)) way = none := fun h => find_none hf hno (if_neg h)
    refine boolK_beq (fun hw => ?_) (fun hw => ?_)
    · refine boolK_dec (fun hg => ?_) (fun hg => ?_)
      · (repeat (first | refine hgetK_last ?_ | refine hgetK_set ?_ | refine hgetK_has _ rfl ?_ | refine needK_has rfl ?_ | refine getK_has rfl ?_ | refine secK_has rfl (by first | exact Nat.le_refl _ | decide) ?_ | refine eqK_has ?_))
        refine Has.intro ?_
        (repeat (first | refine hgetK_last ?_ | refine hgetK_set ?_ | refine hgetK_has _ rfl ?_ | refine needK_has rfl ?_ | refine getK_has rfl ?_ | refine secK_has rfl (by first | exact Nat.le_refl _ | decide) ?_ | refine eqK_has ?_))
        (refine Has.intro (Has.intro ?_))
        rw [hyes (.inl ⟨hw, hg⟩)]; rfl
      · refine boolK_beq_f (by omega) ?_
        refine eqK_has_eq _ (i64_succ (by omega)) ?_
        refine Has.intro ⟨m + 1, ⟨hlt, hnot (by unfold goes; omega)⟩, by omega, ⟨rfl, rfl, rfl, rfl, rfl, rfl, rfl, trivial⟩, rfl⟩
    · refine boolK_beq (fun hw2 => ?_) (fun hw2 => ?_)
      · refine boolK_dec (fun hg => ?_) (fun hg => ?_)
        · (repeat (first | refine hgetK_last ?_ | refine hgetK_set ?_ | refine hgetK_has _ rfl ?_ | refine needK_has rfl ?_ | refine getK_has rfl ?_ | refine secK_has rfl (by first | exact Nat.le_refl _ | decide) ?_ | refine eqK_has ?_))
          refine Has.intro ?_
          (repeat (first | refine hgetK_last ?_ | refine hgetK_set ?_ | refine hgetK_has _ rfl ?_ | refine needK_has rfl ?_ | refine getK_has rfl ?_ | refine secK_has rfl (by first | exact Nat.le_refl _ | decide) ?_ | refine eqK_has ?_))
          (refine Has.intro (Has.intro ?_))
          rw [hyes (.inr ⟨hw2, hg⟩)]; rfl
        · refine eqK_has_eq _ (i64_succ (by omega)) ?_
          refine Has.intro ⟨m + 1, ⟨hlt, hnot (by unfold goes; omega)⟩, by omega, ⟨rfl, rfl, rfl, rfl, rfl, rfl, rfl, trivial⟩, rfl⟩
      · refine eqK_has_eq _ (i64_succ (by omega)) ?_
        refine Has.intro ⟨m + 1, ⟨hlt, hnot (by unfold goes; omega)⟩, by omega, ⟨rfl, rfl, rfl, rfl, rfl, rfl, rfl, trivial⟩, rfl⟩
  · have : m = 4 := by omega
    subst this
    rw [List.take_of_length_le (by omega)] at hno
    refine Has.intro ?_
    (repeat (first | refine hgetK_last ?_ | refine hgetK_set ?_ | refine hgetK_has _ rfl ?_ | refine needK_has rfl ?_ | refine getK_has rfl ?_ | refine secK_has rfl (by first | exact Nat.le_refl _ | decide) ?_ | refine eqK_has ?_))
    (refine Has.intro (Has.intro ?_))
    rw [hno]; rfl
end Go.Proofs.Ytaiomdfajdeacaa
