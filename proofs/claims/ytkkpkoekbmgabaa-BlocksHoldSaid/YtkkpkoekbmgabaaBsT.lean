/-
  Blocks: sums; what is too great; the first test.
-/
import Derived.Test.YtkkpkoekbmgabaaBsQ
set_option linter.all false
set_option linter.unusedVariables false
set_option linter.unusedSimpArgs false
set_option linter.unusedSectionVars false
namespace Go.Proofs.Ytkkpkoekbmgabaa
open Go Go.VM
variable {H : Heap} {p m : Nat} {zs : List Zn} {L : List Rw}

/-- A statement that goes on; what is known behind it is told by a state. -/
theorem seq_stK {σ : Type} {R : Type} {Q : R → Prop} {env : Env} {E : Orc} {a b : VCode} {r : Regs} {h : Heap} {k : Ex → Regs → Heap → Option R} (L : σ → List (Nat × AV)) (Pn : σ → Heap → Prop)
    (ha : Has (evK env E a Res r h doneK) fun x => x.1 = .normal ∧ ∃ s, Agr x.2.1 (L s) ∧ Pn s x.2.2) (hn : ∀ s r h, Pn s h → Has (evK env E b R (setL r (L s)) h k) Q) : Has (evK env E (.seq a b) R r h k) Q := by
  refine seq_join (fun e r h => e = .normal ∧ ∃ s, Agr r (L s) ∧ Pn s h) ha fun e r h hj => ?_
  obtain ⟨rfl, s, h2, h3⟩ := hj
  have := hn s r h h3
  rw [h2.eq] at this
  exact this
def preS (s : Sd) (i : Nat) : Int := (s.l.take i).sum
theorem sum_ok (s : Sd) (hb : ∀ i, -1000000000000 ≤ s.at i ∧ s.at i ≤ 1000000000000) : EP (EE env) 27 [.agg (sc s)] = some (iv (preS s 8)) := by
  have hp : ∀ i : Nat, i ≤ 8 → -1000000000000 * (i : Int) ≤ preS s i ∧ preS s i ≤ 1000000000000 * (i : Int) := by
    intro i
    induction i with
    | zero => intro _; exact ⟨Int.le_refl _, Int.le_refl _⟩
    | succ i ih =>
      intro hi
      have h1 := ih (by omega)
      have h2 := hb i
      have h3 : preS s (i + 1) = preS s i + s.at i := by
        unfold preS Sd.at
        rw [List.take_add_one, List.sum_append, List.getD_eq_getElem?_getD]
        cases s.l[i]? <;> simp
      omega
  refine Has.eq (EP_has ?_)
  (repeat (first | refine hgetK_last ?_ | refine hgetK_set ?_ | refine hgetK_two1 ?_ | refine hgetK_two2 ?_ | refine hgetK_two3 ?_ | refine hgetK_two4 ?_ | refine hgetK_two5 ?_ | refine needK_has rfl ?_ | refine getK_has rfl ?_ | refine secK_has rfl (by first | exact Nat.le_refl _ | decide | exact Nat.le_of_ble_eq_true rfl) ?_ | refine eqK_has ?_))
  refine loopK_has ?_
  refine iterE_upK 8 (fun i => [(7, .pv (iv i)), (6, .pv (.agg (sc s))), (3, .pv (iv (preS s i)))]) (fun _ _ => True) (fun i hi r h _ => ?_) (fun r h _ => ?_) (by (repeat (first | exact trivial | refine ⟨rfl, ?_⟩))) trivial
  · refine boolK_dec_t (by omega) ?_
    refine needK_has (by simp; omega) ?_
    refine getK_has (sc_get s hi) ?_
    have h3 : preS s (i + 1) = preS s i + s.at i := by
      unfold preS Sd.at
      rw [List.take_add_one, List.sum_append, List.getD_eq_getElem?_getD]
      cases s.l[i]? <;> simp
    have h4 := hp (i + 1) (by omega)
    refine eqK_has_eq (preS s (i + 1)) ?_ ?_
    · rw [h3]
      show IntKind.i64.wrap (preS s i + s.at i) = _
      exact wrap_i64 (by omega) (by omega)
    refine eqK_has_eq ((i + 1 : Nat) : Int) (i64_succ (by omega)) ?_
    exact Has.intro ⟨by (repeat (first | exact trivial | refine ⟨rfl, ?_⟩)), trivial⟩
  · refine boolK_dec_f (by decide) ?_
    exact Has.intro (Has.intro (Has.intro rfl))
/-- An operation that is asked for. -/
structure Op where
  kind : Int
  at_ : Int
  o : Ow
  s : Sd
def opc (x : Op) : List PV := [iv x.kind, iv x.at_] ++ oc x.o ++ sc x.s
def ops (l : List Op) : List PV := l.flatMap opc
theorem ops_len (l : List Op) : (ops l).length = l.length * 13 := by
  unfold ops
  induction l with
  | nil => rfl
  | cons a l ih => rw [List.flatMap_cons, List.length_append, ih, List.length_cons]; simp [opc, oc, sc]; omega
theorem ops_get {l : List Op} {i : Nat} {x : Op} (h : l[i]? = some x) : ((ops l).drop (i * 13)).take 13 = opc x := by
  induction l generalizing i with
  | nil => cases h
  | cons a l ih =>
    cases i with
    | zero => simp at h; subst h; simp [ops, opc, oc, sc]
    | succ i =>
      have := ih (i := i) (by simpa using h)
      have e : (ops (a :: l)).drop ((i + 1) * 13) = (ops l).drop (i * 13) := by
        rw [show (i + 1) * 13 = 13 + i * 13 by omega, ← List.drop_drop]
        rfl
      rw [e]; exact this
def smallO (o : Ow) : Prop := o.pod.length ≤ 100 ∧ o.ct.length ≤ 100
instance (o : Ow) : Decidable (smallO o) := by unfold smallO; infer_instance
def smallL (l : List Op) : Prop := (∀ (i : Nat) (x : Op), l[i]? = some x → smallO x.o) ∧ l.length ≤ 60
theorem great_ok (e : Ext) (l : List Op) (hl : l.length ≤ maxLen) (hs : ∀ x ∈ l, x.o.pod.length ≤ maxLen ∧ x.o.ct.length ≤ maxLen) :
    Has (EP (EE env) 7 [.sl e l.length (ops l)]) fun v => (v = .bool true ∧ ¬ smallL l) ∨ (v = .bool false ∧ smallL l) := by
  have hmax : maxLen = 9223372036854775807 := rfl
  refine EP_has ?_
  refine loopK_has ?_
  refine iterE_upK l.length (fun i => [(7, .pv (iv i)), (6, .pv (iv l.length)), (5, .pv (.sl e l.length (ops l))), (0, .pv (.sl e l.length (ops l)))]) (fun i _ => ∀ j x, j < i → l[j]? = some x → smallO x.o) (fun i hi r h hh => ?_) (fun r h hh => ?_) (by (repeat (first | exact trivial | refine ⟨rfl, ?_⟩))) (fun j x hj => by omega)
  · refine boolK_dec_t (by omega) ?_
    refine needK_has (by simp; omega) ?_
    refine secK_has (v := opc l[i]) (ops_get (List.getElem?_eq_getElem hi)) (by rw [ops_len]; show i * 13 + 13 ≤ _; omega) ?_
    have hsi := hs l[i] (List.getElem_mem hi)
    (repeat (first | refine hgetK_last ?_ | refine hgetK_set ?_ | refine hgetK_two1 ?_ | refine hgetK_two2 ?_ | refine hgetK_two3 ?_ | refine hgetK_two4 ?_ | refine hgetK_two5 ?_ | refine needK_has rfl ?_ | refine getK_has rfl ?_ | refine secK_has rfl (by first | exact Nat.le_refl _ | decide | exact Nat.le_of_ble_eq_true rfl) ?_ | refine eqK_has ?_))
    refine boolK_dec (fun h1 => ?_) (fun h1 => ?_)
    · rw [sv_size] at h1
      exact Has.intro (Has.intro (Has.intro (.inl ⟨rfl, fun h => by have := (h.1 i _ (List.getElem?_eq_getElem hi)).1; omega⟩)))
    · rw [sv_size] at h1
      (repeat (first | refine hgetK_last ?_ | refine hgetK_set ?_ | refine hgetK_two1 ?_ | refine hgetK_two2 ?_ | refine hgetK_two3 ?_ | refine hgetK_two4 ?_ | refine hgetK_two5 ?_ | refine needK_has rfl ?_ | refine getK_has rfl ?_ | refine secK_has rfl (by first | exact Nat.le_refl _ | decide | exact Nat.le_of_ble_eq_true rfl) ?_ | refine eqK_has ?_))
      refine boolK_dec (fun h2 => ?_) (fun h2 => ?_)
      · rw [sv_size] at h2
        exact Has.intro (Has.intro (Has.intro (.inl ⟨rfl, fun h => by have := (h.1 i _ (List.getElem?_eq_getElem hi)).2; omega⟩)))
      · rw [sv_size] at h2
        refine eqK_has_eq ((i + 1 : Nat) : Int) (i64_succ (by omega)) ?_
        refine Has.intro ⟨by (repeat (first | exact trivial | refine ⟨rfl, ?_⟩)), fun j x hj hx => ?_⟩
        by_cases hji : j < i
        · exact hh j x hji hx
        · obtain rfl : j = i := by omega
          rw [List.getElem?_eq_getElem hi] at hx
          injection hx with hx
          subst hx
          exact ⟨by omega, by omega⟩
  · refine boolK_dec_f (by omega) ?_
    refine Has.intro ?_
    refine boolK_dec (fun h1 => ?_) (fun h1 => ?_)
    · exact Has.intro (Has.intro (.inl ⟨rfl, fun h => by have := h.2; omega⟩))
    · refine Has.intro (Has.intro (.inr ⟨rfl, fun i x hx => ?_, by omega⟩))
      exact hh i x (List.getElem?_eq_some_iff.1 hx).1 hx
end Go.Proofs.Ytkkpkoekbmgabaa
