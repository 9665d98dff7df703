/-
  What may be written between the group above and those below.
-/
import Derived.Test.YtaiomdfajdeacaaPRuA
set_option linter.all false
set_option linter.unusedVariables false
set_option linter.unusedSimpArgs false
set_option linter.unusedSectionVars false
namespace Go.Proofs.Ytaiomdfajdeacaa
open Go Go.VM

/-- Groups' cells. -/
def kns (l : List Kn) : List PV := (l.map kn).flatten
theorem kns_len (l : List Kn) : (kns l).length = l.length * 5 := by
  induction l with
  | nil => rfl
  | cons k l ih => show (kn k ++ kns l).length = _; rw [List.length_append, ih]; show 5 + _ = _; simp; omega
theorem kns_get {l : List Kn} {i : Nat} {k : Kn} (h : l[i]? = some k) : ((kns l).drop (i * 5)).take 5 = kn k ∧ i * 5 + 5 ≤ (kns l).length := by
  induction l generalizing i with
  | nil => simp at h
  | cons a l ih =>
    cases i with
    | zero =>
      simp at h; subst h
      refine ⟨rfl, ?_⟩
      rw [kns_len]; simp; omega
    | succ i =>
      simp at h
      obtain ⟨h1, h2⟩ := ih h
      refine ⟨?_, by rw [kns_len] at h2 ⊢; simp; omega⟩
      show ((kn a ++ kns l).drop ((i + 1) * 5)).take 5 = kn k
      have e : (i + 1) * 5 = (kn a).length + i * 5 := by show _ = 5 + _; omega
      rw [e, List.drop_append, List.drop_of_length_le (by omega), List.nil_append, Nat.add_sub_cancel_left]
      exact h1

/-- Below some number in each? -/
def over (l : List Kn) (f n : Int) : Prop := ∃ k ∈ l, at_ k f > n
instance (l : List Kn) (f n : Int) : Decidable (over l f n) := by unfold over; infer_instance
def between (up : Kn) (l : List Kn) (f n : Int) : Prop := n ≤ at_ up f ∧ ¬ over l f n
instance (up : Kn) (l : List Kn) (f n : Int) : Decidable (between up l f n) := by unfold between; infer_instance

theorem wrong_ok (up : Kn) (x : Ext) (l : List Kn) (hl : l.length ≤ maxLen) (f n : Int) :
    EP (EE env) 34 [.agg (kn up), .sl x l.length (kns l), .int .i64 f, .int .i64 n] = some (.bool (decide (¬ between up l f n))) := by
  rw [maxLen_eq] at hl
  refine Has.eq (EP_has ?_)
  refine loopK_has ?_
  refine iterE_loop (σ := Nat × Heap) (fun s => l.length - s.1) (fun s => [(1, .pv (.sl x l.length (kns l))), (2, .pv (.int .i64 f)), (3, .pv (.int .i64 n)), (4, .ptr 0 0), (11, .pv (.sl x l.length (kns l))), (12, .pv (.int .i64 l.length)), (13, .pv (.int .i64 s.1))])
    (fun s => .pcells (kn up) :: s.2) (fun s => s.1 ≤ l.length ∧ ∀ k ∈ l.take s.1, ¬ at_ k f > n) (fun ⟨m, J⟩ ⟨hm, hno⟩ r => ?_) (0, []) ⟨Nat.zero_le _, fun k hk => by cases hk⟩ ⟨rfl, rfl, rfl, rfl, rfl, rfl, rfl, trivial⟩ rfl
  dsimp only at hm hno
  refine boolK_dec (fun hc => ?_) (fun hc => ?_)
  · have hlt : m < l.length := by omega
    obtain ⟨k, hk⟩ : ∃ k, l[m]? = some k := ⟨l[m], List.getElem?_eq_getElem hlt⟩
    obtain ⟨g1, g2⟩ := kns_get hk
    refine needK_has (by simp; omega) ?_
    refine secK_has g1 g2 ?_
    refine hgetK_has _ (hget_append_same (.pcells (kn up) :: J) _) ?_
    refine needK_has rfl ?_
    refine eqK_has_eq (kn k) rfl ?_
    rw [hset_last]
    refine hgetK_has _ (hget_append_same (.pcells (kn up) :: J) _) ?_
    refine secK_has (v := kn k) rfl (Nat.le_refl _) ?_
    refine callPK_has (rat_ok k f) ?_
    refine boolK_dec (fun hb => ?_) (fun hb => ?_)
    · refine Has.intro (Has.intro (Has.intro ?_))
      exact yes (fun hbt => hbt.2 ⟨k, List.mem_of_getElem? hk, hb⟩)
    · refine eqK_has_eq _ (i64_succ (by omega)) ?_
      refine Has.intro ⟨(m + 1, J ++ [.pcells (kn k)]), ⟨hlt, ?_⟩, by simp only; omega, ⟨rfl, rfl, rfl, rfl, rfl, rfl, rfl, trivial⟩, rfl⟩
      intro q hq
      simp only at hq
      rw [List.take_add_one, hk] at hq
      rcases List.mem_append.1 hq with h1 | h1
      · exact hno q h1
      · simp at h1; subst h1; exact hb
  · have he : m = l.length := by omega
    subst he
    rw [List.take_length] at hno
    refine Has.intro ?_
    refine hgetK_has (.pcells (kn up)) rfl ?_
    refine secK_has (v := kn up) rfl (Nat.le_refl _) ?_
    refine callPK_has (rat_ok up f) ?_
    have hov : ¬ over l f n := fun ⟨k, h1, h2⟩ => hno k h1 h2
    refine boolK_dec (fun hb => ?_) (fun hb => ?_)
    · refine Has.intro (Has.intro ?_)
      exact yes (fun hbt => by have := hbt.1; omega)
    · refine Has.intro (Has.intro ?_)
      exact no (fun hn => hn ⟨by omega, hov⟩)
end Go.Proofs.Ytaiomdfajdeacaa
