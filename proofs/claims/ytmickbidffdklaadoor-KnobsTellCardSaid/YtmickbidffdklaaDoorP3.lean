/-
  Part 3 of the functions and the law.
  Knobs: weights, limits, files.
  Knobs: files, which are right.
  Knobs' text.
  Names.
  Sums that tell when they do not fit: what the program's functions compute.
  Vectors.
  Containers.
  Containers that are found by their names.
  Find.
  Sums of vectors.
  Sums of pods.
-/
import Derived.Test.YtmickbidffdklaaDoorP2
import Derived.Lib.ItoaLen
set_option linter.all false
set_option linter.unusedVariables false
set_option linter.unusedSimpArgs false
set_option linter.unusedSectionVars false
namespace Go.Proofs.YtmickbidffdklaaDoor
open Go Go.VM

structure Kn where
  (cm cw mi mx hg : Int)
deriving DecidableEq
def kn (k : Kn) : List PV := [.int .i64 k.cm, .int .i64 k.cw, .int .i64 k.mi, .int .i64 k.mx, .int .i64 k.hg]
def k0 : Kn := ⟨0, 0, 0, 0, 0⟩
def in64 (n : Int) : Prop := -9223372036854775808 ≤ n ∧ n ≤ 9223372036854775807
def kR (k : Kn) : Prop := in64 k.cm ∧ in64 k.cw ∧ in64 k.mi ∧ in64 k.mx ∧ in64 k.hg

theorem ksum_ok (n : Int) : EP (EE env) 35 [.int .i64 n] = some (.bool (decide (0 ≤ n ∧ n ≤ 9007199254740992))) := by
  refine Has.eq (EP_has ?_)
  refine boolK_dec (fun h => ?_) (fun h => ?_)
  · refine boolK_dec (fun h1 => ?_) (fun h1 => ?_)
    · rw [decide_eq_true (by omega)]; (refine Has.intro (Has.intro ?_)); rfl
    · rw [decide_eq_false (by omega)]; (refine Has.intro (Has.intro ?_)); rfl
  · rw [decide_eq_false (by omega)]; (refine Has.intro (Has.intro ?_)); rfl
def limI (n : Int) : Int := if n = 0 then (4611686018427387904) else n
theorem limit_ok (n : Int) : EP (EE env) 27 [.int .i64 n] = some (.int .i64 (limI n)) := by
  refine Has.eq (EP_has ?_)
  refine boolK_beq (fun h => ?_) (fun h => ?_)
  · subst h; (refine Has.intro (Has.intro ?_)); rfl
  · unfold limI; rw [if_neg h]; (refine Has.intro (Has.intro ?_)); rfl
theorem rlimit_ok (n : Int) : EP (EE env) 29 [.int .i64 n] = some (.int .i64 (limI n)) := by
  refine Has.eq (EP_has ?_)
  refine boolK_beq (fun h => ?_) (fun h => ?_)
  · subst h; (refine Has.intro (Has.intro ?_)); rfl
  · unfold limI; rw [if_neg h]; (refine Has.intro (Has.intro ?_)); rfl
def bothI (a b : Int) : Int := if a = (4611686018427387904) ∨ b = (4611686018427387904) then (4611686018427387904) else a + b
theorem kboth_ok (a b : Int) (h : ¬ (a = (4611686018427387904) ∨ b = (4611686018427387904)) → in64 (a + b)) : EP (EE env) 31 [.int .i64 a, .int .i64 b] = some (.int .i64 (bothI a b)) := by
  refine Has.eq (EP_has ?_)
  unfold bothI
  refine boolK_beq (fun h1 => ?_) (fun h1 => ?_)
  · rw [if_pos (.inl h1)]; (refine Has.intro (Has.intro ?_)); rfl
  · refine boolK_beq (fun h2 => ?_) (fun h2 => ?_)
    · rw [if_pos (.inr h2)]; (refine Has.intro (Has.intro ?_)); rfl
    · have hn : ¬ (a = (4611686018427387904) ∨ b = (4611686018427387904)) := by omega
      rw [if_neg hn]; refine eqK_has_eq _ (wrap_i64 (h hn).1 (h hn).2) ?_; (refine Has.intro (Has.intro ?_)); rfl
def wM (n : Int) : Int := if n < 256000 then (if 0 < n then n * 1024 / 1000 else 0) else 262144
def wI (n : Int) : Int := 1 + ((if wM n < 2 then 2 else wM n) - 2) * 9999 / 262142
theorem wI_range (n : Int) : 1 ≤ wI n ∧ wI n ≤ 10000 := by
  unfold wI wM; split <;> (try split) <;> (try split) <;> omega
theorem wI_mono {a b : Int} (h : a ≤ b) : wI a ≤ wI b := by
  unfold wI wM; split <;> (try split) <;> (try split) <;> (try split) <;> (try split) <;> omega
theorem tdiv_pos {a b : Int} (h : 0 ≤ a) : a.tdiv b = a / b := Int.tdiv_eq_ediv_of_nonneg h
theorem wq {m k : Int} (hm : 0 ≤ m ∧ m ≤ 268435456) (hk : 0 ≤ k ∧ k ≤ 268435456) (e : 0 < k) : IntKind.i64.wrap (m.tdiv k) = m / k := by
  rw [tdiv_pos hm.1, wrap_i64]
  · exact Int.le_trans (by decide) (Int.ediv_nonneg hm.1 hk.1)
  · exact Int.le_trans (Int.ediv_le_self _ hm.1) (by omega)
theorem wT {w : Int} (h : 2 ≤ w ∧ w ≤ 262144) : IntKind.i64.wrap ((w - 2) * 9999) = (w - 2) * 9999 ∧ IntKind.i64.wrap (((w - 2) * 9999).tdiv 262142) = (w - 2) * 9999 / 262142 ∧ IntKind.i64.wrap (w - 2) = w - 2 ∧ IntKind.i64.wrap (1 + (w - 2) * 9999 / 262142) = 1 + (w - 2) * 9999 / 262142 := by
  refine ⟨wrap_i64 (by omega) (by omega), ?_, wrap_i64 (by omega) (by omega), wrap_i64 (by omega) (by omega)⟩
  rw [tdiv_pos (by omega)]
  exact wrap_i64 (by omega) (by omega)
theorem weight_ok (n : Int) (hn : in64 n) : EP (EE env) 15 [.int .i64 n] = some (.int .i64 (wI n)) := by
  obtain ⟨hn1, hn2⟩ := hn
  refine Has.eq (EP_has ?_)
  refine boolK_dec (fun h => ?_) (fun h => ?_)
  · obtain ⟨m, hm⟩ : ∃ m, m = if 0 < n then n else 0 := ⟨_, rfl⟩
    have hb : 0 ≤ m ∧ m < 262144 := by rw [hm]; split <;> omega
    refine eqK_has_eq m (by rw [hm]; show (if 0 > n then 0 else n) = _; split <;> split <;> omega) ?_
    refine eqK_has_eq (m * 1024) (wrap_i64 (by omega) (by omega)) ?_
    refine needK_has rfl ?_
    refine eqK_has_eq (m * 1024 / 1000) (by rw [tdiv_pos (by omega)]; exact wrap_i64 (by omega) (by omega)) ?_
    obtain ⟨w, hw⟩ : ∃ w, w = if wM n < 2 then 2 else wM n := ⟨_, rfl⟩
    have hw2 : 2 ≤ w ∧ w ≤ 262144 := by rw [hw]; unfold wM; split <;> (try split) <;> (try split) <;> omega
    obtain ⟨e1, e2, e3, e4⟩ := wT hw2
    refine eqK_has ?_
    refine eqK_has_eq w (by
      show (if 262144 < (if 2 > m * 1024 / 1000 then 2 else m * 1024 / 1000) then 262144 else (if 2 > m * 1024 / 1000 then 2 else m * 1024 / 1000)) = w
      rw [hw, hm]; unfold wM; split <;> (try split) <;> (try split) <;> (try split) <;> (try split) <;> omega) ?_
    refine eqK_has_eq _ e3 ?_
    refine eqK_has_eq _ e1 ?_
    refine needK_has rfl ?_
    refine eqK_has_eq _ e2 ?_
    refine eqK_has_eq _ e4 ?_
    rw [hw]
    exact Has.intro (Has.intro rfl)
  · refine eqK_has ?_
    refine eqK_has_eq 262144 rfl ?_
    refine eqK_has_eq 262142 rfl ?_
    refine eqK_has_eq 2621157858 rfl ?_
    refine needK_has rfl ?_
    refine eqK_has_eq 9999 rfl ?_
    refine eqK_has_eq 10000 rfl ?_
    have h1 : wM n = 262144 := by unfold wM; rw [if_neg (by omega)]
    have : wI n = 10000 := by unfold wI; rw [h1]; rfl
    rw [this]
    exact Has.intro (Has.intro rfl)
theorem rweight_ok (n : Int) (hn : in64 n) : EP (EE env) 16 [.int .i64 n] = some (.int .i64 (wI n)) := by
  obtain ⟨hn1, hn2⟩ := hn
  refine Has.eq (EP_has ?_)
  have hw : ∀ w, w = (if wM n < 2 then 2 else wM n) → 1 + (w - 2) * 9999 / 262142 = wI n := fun w h => by rw [h]; rfl
  refine boolK_dec (fun h => ?_) (fun h => ?_)
  · refine boolK_dec (fun h1 => ?_) (fun h1 => ?_)
    · refine eqK_has_eq (n * 1024) (wrap_i64 (by omega) (by omega)) ?_
      refine needK_has rfl ?_
      refine eqK_has_eq (n * 1024 / 1000) (by rw [tdiv_pos (by omega)]; exact wrap_i64 (by omega) (by omega)) ?_
      have hq : wM n = n * 1024 / 1000 := by unfold wM; rw [if_pos h, if_pos (by omega)]
      refine boolK_dec (fun h2 => ?_) (fun h2 => ?_)
      · have e := hw 2 (by rw [hq, if_pos (by omega)])
        refine eqK_has_eq 0 rfl ?_
        refine eqK_has_eq 0 rfl ?_
        refine needK_has rfl ?_
        refine eqK_has_eq 0 rfl ?_
        refine eqK_has_eq 1 rfl ?_
        rw [← e]
        exact Has.intro (Has.intro rfl)
      · have e := hw (n * 1024 / 1000) (by rw [hq, if_neg (by omega)])
        obtain ⟨e1, e2, e3, e4⟩ := wT (w := n * 1024 / 1000) (by omega)
        refine eqK_has_eq _ e3 ?_
        refine eqK_has_eq _ e1 ?_
        refine needK_has rfl ?_
        refine eqK_has_eq _ e2 ?_
        refine eqK_has_eq _ e4 ?_
        rw [← e]
        exact Has.intro (Has.intro rfl)
    · have hq : wM n = 0 := by unfold wM; rw [if_pos h, if_neg (by omega)]
      have e := hw 2 (by rw [hq, if_pos (by omega)])
      refine boolK_dec_t (by decide) ?_
      refine eqK_has_eq 0 rfl ?_
      refine eqK_has_eq 0 rfl ?_
      refine needK_has rfl ?_
      refine eqK_has_eq 0 rfl ?_
      refine eqK_has_eq 1 rfl ?_
      rw [← e]
      exact Has.intro (Has.intro rfl)
  · have e := hw 262144 (by unfold wM; rw [if_neg h]; rfl)
    refine boolK_dec_f (by decide) ?_
    refine eqK_has_eq 262142 rfl ?_
    refine eqK_has_eq 2621157858 rfl ?_
    refine needK_has rfl ?_
    refine eqK_has_eq 9999 rfl ?_
    refine eqK_has_eq 10000 rfl ?_
    rw [← e]
    exact Has.intro (Has.intro rfl)
theorem kparts_ok (k : Kn) : EP (EE env) 34 [.agg (kn k)] = some (.agg (kn k)) := by
  refine Has.eq (EP_has ?_)
  (repeat (first | refine hgetK_last ?_ | refine hgetK_set ?_ | refine hgetK_has _ rfl ?_ | refine needK_has rfl ?_ | refine getK_has rfl ?_ | refine secK_has rfl (by first | exact Nat.le_refl _ | decide) ?_ | refine eqK_has ?_))
  (refine Has.intro (Has.intro ?_))
  rfl
theorem root_ok : EP (EE env) 14 [] = some (.agg (kn ⟨(4611686018427387904), 100, (4611686018427387904), (4611686018427387904), (4611686018427387904)⟩)) := by
  refine Has.eq (EP_has ?_)
  (repeat (first | refine hgetK_last ?_ | refine hgetK_set ?_ | refine hgetK_has _ rfl ?_ | refine needK_has rfl ?_ | refine getK_has rfl ?_ | refine secK_has rfl (by first | exact Nat.le_refl _ | decide) ?_ | refine eqK_has ?_))
  (refine Has.intro (Has.intro ?_))
  rfl
end Go.Proofs.YtmickbidffdklaaDoor

namespace Go.Proofs.YtmickbidffdklaaDoor
open Go Go.VM

def atI (k : Kn) (f : Int) : Int := if f = 0 then k.cm else if f = 1 then k.cw else if f = 2 then k.mi else if f = 3 then k.mx else if f = 4 then k.hg else 0
def setI (k : Kn) (f n : Int) : Kn := if f = 0 then { k with cm := n } else if f = 1 then { k with cw := n } else if f = 2 then { k with mi := n } else if f = 3 then { k with mx := n } else if f = 4 then { k with hg := n } else k
theorem five {f : Int} (h0 : ¬ f < 0) (h1 : ¬ f > 4) : f = 0 ∨ f = 1 ∨ f = 2 ∨ f = 3 ∨ f = 4 := by omega
theorem atI_out {k : Kn} {f : Int} (h : f < 0 ∨ f > 4) : atI k f = 0 := by
  unfold atI; rw [if_neg (by omega), if_neg (by omega), if_neg (by omega), if_neg (by omega), if_neg (by omega)]
theorem setI_out {k : Kn} {f n : Int} (h : f < 0 ∨ f > 4) : setI k f n = k := by
  unfold setI; rw [if_neg (by omega), if_neg (by omega), if_neg (by omega), if_neg (by omega), if_neg (by omega)]
theorem at_ok6 (k : Kn) (f : Int) : EP (EE env) 17 [.agg (kn k), .int .i64 f] = some (.int .i64 (atI k f)) := by
  refine Has.eq (EP_has ?_)
  refine boolK_dec (fun h => ?_) (fun h => ?_)
  · rw [atI_out (.inl h)]; (refine Has.intro (Has.intro ?_)); rfl
  refine boolK_dec (fun h1 => ?_) (fun h1 => ?_)
  · rw [atI_out (.inr h1)]; (refine Has.intro (Has.intro ?_)); rfl
  (repeat (first | refine hgetK_last ?_ | refine hgetK_set ?_ | refine hgetK_has _ rfl ?_ | refine needK_has rfl ?_ | refine getK_has rfl ?_ | refine secK_has rfl (by first | exact Nat.le_refl _ | decide) ?_ | refine eqK_has ?_))
  refine callPK_has (kparts_ok k) ?_
  rcases five h h1 with rfl | rfl | rfl | rfl | rfl
  all_goals
    (repeat (first | refine hgetK_last ?_ | refine hgetK_set ?_ | refine hgetK_has _ rfl ?_ | refine needK_has rfl ?_ | refine getK_has rfl ?_ | refine secK_has rfl (by first | exact Nat.le_refl _ | decide) ?_ | refine eqK_has ?_))
    (refine Has.intro (Has.intro ?_))
    rfl
theorem rat_ok (k : Kn) (f : Int) : EP (EE env) 18 [.agg (kn k), .int .i64 f] = some (.int .i64 (atI k f)) := by
  refine Has.eq (EP_has ?_)
  unfold atI
  refine boolK_beq (fun h => ?_) (fun h => ?_)
  · rw [if_pos h]; (repeat (first | refine hgetK_last ?_ | refine hgetK_set ?_ | refine hgetK_has _ rfl ?_ | refine needK_has rfl ?_ | refine getK_has rfl ?_ | refine secK_has rfl (by first | exact Nat.le_refl _ | decide) ?_ | refine eqK_has ?_)); (refine Has.intro (Has.intro ?_)); rfl
  refine boolK_beq (fun h1 => ?_) (fun h1 => ?_)
  · rw [if_neg h, if_pos h1]; (repeat (first | refine hgetK_last ?_ | refine hgetK_set ?_ | refine hgetK_has _ rfl ?_ | refine needK_has rfl ?_ | refine getK_has rfl ?_ | refine secK_has rfl (by first | exact Nat.le_refl _ | decide) ?_ | refine eqK_has ?_)); (refine Has.intro (Has.intro ?_)); rfl
  refine boolK_beq (fun h2 => ?_) (fun h2 => ?_)
  · rw [if_neg h, if_neg h1, if_pos h2]; (repeat (first | refine hgetK_last ?_ | refine hgetK_set ?_ | refine hgetK_has _ rfl ?_ | refine needK_has rfl ?_ | refine getK_has rfl ?_ | refine secK_has rfl (by first | exact Nat.le_refl _ | decide) ?_ | refine eqK_has ?_)); (refine Has.intro (Has.intro ?_)); rfl
  refine boolK_beq (fun h3 => ?_) (fun h3 => ?_)
  · rw [if_neg h, if_neg h1, if_neg h2, if_pos h3]; (repeat (first | refine hgetK_last ?_ | refine hgetK_set ?_ | refine hgetK_has _ rfl ?_ | refine needK_has rfl ?_ | refine getK_has rfl ?_ | refine secK_has rfl (by first | exact Nat.le_refl _ | decide) ?_ | refine eqK_has ?_)); (refine Has.intro (Has.intro ?_)); rfl
  refine boolK_beq (fun h4 => ?_) (fun h4 => ?_)
  · rw [if_neg h, if_neg h1, if_neg h2, if_neg h3, if_pos h4]; (repeat (first | refine hgetK_last ?_ | refine hgetK_set ?_ | refine hgetK_has _ rfl ?_ | refine needK_has rfl ?_ | refine getK_has rfl ?_ | refine secK_has rfl (by first | exact Nat.le_refl _ | decide) ?_ | refine eqK_has ?_)); (refine Has.intro (Has.intro ?_)); rfl
  rw [if_neg h, if_neg h1, if_neg h2, if_neg h3, if_neg h4]; (refine Has.intro (Has.intro ?_)); rfl
set_option maxHeartbeats 1000000 in
theorem with_ok (k : Kn) (f n : Int) : EP (EE env) 19 [.agg (kn k), .int .i64 f, .int .i64 n] = some (.agg (kn (setI k f n))) := by
  refine Has.eq (EP_has ?_)
  refine boolK_dec (fun h => ?_) (fun h => ?_)
  · rw [setI_out (.inl h)]; (repeat (first | refine hgetK_last ?_ | refine hgetK_set ?_ | refine hgetK_has _ rfl ?_ | refine needK_has rfl ?_ | refine getK_has rfl ?_ | refine secK_has rfl (by first | exact Nat.le_refl _ | decide) ?_ | refine eqK_has ?_)); (refine Has.intro (Has.intro ?_)); rfl
  refine boolK_dec (fun h1 => ?_) (fun h1 => ?_)
  · rw [setI_out (.inr h1)]; (repeat (first | refine hgetK_last ?_ | refine hgetK_set ?_ | refine hgetK_has _ rfl ?_ | refine needK_has rfl ?_ | refine getK_has rfl ?_ | refine secK_has rfl (by first | exact Nat.le_refl _ | decide) ?_ | refine eqK_has ?_)); (refine Has.intro (Has.intro ?_)); rfl
  (repeat (first | refine hgetK_last ?_ | refine hgetK_set ?_ | refine hgetK_has _ rfl ?_ | refine needK_has rfl ?_ | refine getK_has rfl ?_ | refine secK_has rfl (by first | exact Nat.le_refl _ | decide) ?_ | refine eqK_has ?_))
  refine callPK_has (kparts_ok k) ?_
  rcases five h h1 with rfl | rfl | rfl | rfl | rfl
  all_goals
    (repeat (first | refine hgetK_last ?_ | refine hgetK_set ?_ | refine hgetK_has _ rfl ?_ | refine needK_has rfl ?_ | refine getK_has rfl ?_ | refine secK_has rfl (by first | exact Nat.le_refl _ | decide) ?_ | refine eqK_has ?_))
    (refine Has.intro (Has.intro ?_))
    rfl
set_option maxHeartbeats 1000000 in
theorem rwith_ok (k : Kn) (f n : Int) : EP (EE env) 20 [.agg (kn k), .int .i64 f, .int .i64 n] = some (.agg (kn (setI k f n))) := by
  refine Has.eq (EP_has ?_)
  unfold setI
  refine boolK_beq (fun h => ?_) (fun h => ?_)
  · rw [if_pos h]; (repeat (first | refine hgetK_last ?_ | refine hgetK_set ?_ | refine hgetK_has _ rfl ?_ | refine needK_has rfl ?_ | refine getK_has rfl ?_ | refine secK_has rfl (by first | exact Nat.le_refl _ | decide) ?_ | refine eqK_has ?_)); (refine Has.intro (Has.intro ?_)); rfl
  refine boolK_beq (fun h1 => ?_) (fun h1 => ?_)
  · rw [if_neg h, if_pos h1]; (repeat (first | refine hgetK_last ?_ | refine hgetK_set ?_ | refine hgetK_has _ rfl ?_ | refine needK_has rfl ?_ | refine getK_has rfl ?_ | refine secK_has rfl (by first | exact Nat.le_refl _ | decide) ?_ | refine eqK_has ?_)); (refine Has.intro (Has.intro ?_)); rfl
  refine boolK_beq (fun h2 => ?_) (fun h2 => ?_)
  · rw [if_neg h, if_neg h1, if_pos h2]; (repeat (first | refine hgetK_last ?_ | refine hgetK_set ?_ | refine hgetK_has _ rfl ?_ | refine needK_has rfl ?_ | refine getK_has rfl ?_ | refine secK_has rfl (by first | exact Nat.le_refl _ | decide) ?_ | refine eqK_has ?_)); (refine Has.intro (Has.intro ?_)); rfl
  refine boolK_beq (fun h3 => ?_) (fun h3 => ?_)
  · rw [if_neg h, if_neg h1, if_neg h2, if_pos h3]; (repeat (first | refine hgetK_last ?_ | refine hgetK_set ?_ | refine hgetK_has _ rfl ?_ | refine needK_has rfl ?_ | refine getK_has rfl ?_ | refine secK_has rfl (by first | exact Nat.le_refl _ | decide) ?_ | refine eqK_has ?_)); (refine Has.intro (Has.intro ?_)); rfl
  refine boolK_beq (fun h4 => ?_) (fun h4 => ?_)
  · rw [if_neg h, if_neg h1, if_neg h2, if_neg h3, if_pos h4]; (repeat (first | refine hgetK_last ?_ | refine hgetK_set ?_ | refine hgetK_has _ rfl ?_ | refine needK_has rfl ?_ | refine getK_has rfl ?_ | refine secK_has rfl (by first | exact Nat.le_refl _ | decide) ?_ | refine eqK_has ?_)); (refine Has.intro (Has.intro ?_)); rfl
  rw [if_neg h, if_neg h1, if_neg h2, if_neg h3, if_neg h4]; (repeat (first | refine hgetK_last ?_ | refine hgetK_set ?_ | refine hgetK_has _ rfl ?_ | refine needK_has rfl ?_ | refine getK_has rfl ?_ | refine secK_has rfl (by first | exact Nat.le_refl _ | decide) ?_ | refine eqK_has ?_)); (refine Has.intro (Has.intro ?_)); rfl
def sumP (n : Int) : Prop := 0 ≤ n ∧ n ≤ 9007199254740992
def rightP (k : Kn) : Prop := (sumP k.cm ∨ k.cm = (4611686018427387904)) ∧ (sumP k.mx ∨ k.mx = (4611686018427387904)) ∧ 1 ≤ k.cw ∧ k.cw ≤ 10000 ∧ sumP k.mi ∧ sumP k.hg ∧ k.mi ≤ k.mx
instance (n : Int) : Decidable (sumP n) := by unfold sumP; infer_instance
instance (k : Kn) : Decidable (rightP k) := by unfold rightP; infer_instance
theorem rightB_f {k : Kn} (h : ¬ rightP k) : decide (rightP k) = false := decide_eq_false h
theorem rightB_t {k : Kn} (h : rightP k) : decide (rightP k) = true := decide_eq_true h
theorem ksum_dec (n : Int) : EP (EE env) 35 [.int .i64 n] = some (.bool (decide (sumP n))) := ksum_ok n
set_option maxHeartbeats 4000000 in
theorem right_ok6 (k : Kn) : EP (EE env) 21 [.agg (kn k)] = some (.bool (decide (rightP k))) := by
  refine Has.eq (EP_has (fn_has rfl ?_))
  refine seq_on [(1, .ptr 0 0)] [.pcells (kn k)] (by (repeat (first | refine hgetK_last ?_ | refine hgetK_set ?_ | refine hgetK_has _ rfl ?_ | refine needK_has rfl ?_ | refine getK_has rfl ?_ | refine secK_has rfl (by first | exact Nat.le_refl _ | decide) ?_ | refine eqK_has ?_)); (refine Has.intro ⟨rfl, ?_, rfl⟩; (repeat (first | exact trivial | refine ⟨rfl, ?_⟩)))) (fun r => ?_)
  have hf : ¬ rightP k → PV.bool false = .bool (decide (rightP k)) := fun h => by rw [rightB_f h]
  (repeat (first | refine hgetK_last ?_ | refine hgetK_set ?_ | refine hgetK_has _ rfl ?_ | refine needK_has rfl ?_ | refine getK_has rfl ?_ | refine secK_has rfl (by first | exact Nat.le_refl _ | decide) ?_ | refine eqK_has ?_))
  repeat' (first
    | refine boolK_dec (fun _ => ?_) (fun _ => ?_)
    | refine boolK_beq (fun _ => ?_) (fun _ => ?_)
    | refine callPK_dec (ksum_dec _) (fun _ => ?_) (fun _ => ?_)
    | refine hgetK_has _ rfl ?_
    | refine getK_has rfl ?_
    | refine needK_has rfl ?_
    | fail)
  all_goals
    refine Has.intro (Has.intro ?_)
    first
      | exact congrArg PV.bool (rightB_t (by unfold rightP sumP at *; omega)).symm
      | exact congrArg PV.bool (rightB_f (by unfold rightP sumP at *; omega)).symm
end Go.Proofs.YtmickbidffdklaaDoor

namespace Go.Proofs.YtmickbidffdklaaDoor
open Go Go.VM

theorem allPV_of (ps : List PV) : allPV (ps.map AV.pv) = some ps := by
  induction ps with
  | nil => rfl
  | cons p ps ih => simp [allPV, ih]
theorem EP_prim {env : Env} {f : FuncId} {g : List PV → Option PV} {ps : List PV} {p : PV} (h1 : env.ft f = none) (h2 : env.pr f = some g) (h3 : g ps = some p) : EP (EE env) f ps = some p := by
  have h : EE env (.fn f) (ps.map .pv) [] = some (.pv p, []) := EE_intro (by
    simp only [evTgtK]; rw [h1]; dsimp only; rw [h2]; dsimp only; rw [allPV_of]; simp [bindK_def, h3])
  unfold EP; rw [h]; rfl
theorem itoa_ok (n : Int) (h : in64 n) : EP (EE env) 36 [.int .i64 n] = some (sv (Lib.itoa n)) := by
  refine EP_prim (g := itoaP) (by kernel_rfl) (by kernel_rfl) ?_
  unfold itoaP
  dsimp only
  rw [decide_eq_true h.1, decide_eq_true h.2]; rfl
def s1 (n : List UInt8) : List PV := [sv n]
theorem s1_len (n : List UInt8) : (s1 n).length = 1 := rfl
theorem strs_flat (l : List (List UInt8)) : strsP (flat s1 l) = some (l.map fun x => ⟨x.toArray⟩) := by
  induction l with
  | nil => rfl
  | cons a l ih =>
    show strsP (sv a :: flat s1 l) = _
    unfold sv strsP
    rw [ih]; rfl
theorem join_ok (x : Ext) (l : List (List UInt8)) (sep : List UInt8) (h1 : l.length ≤ 1000) (h2 : (Lib.join l sep).length ≤ 140737488355328) : EP (EE env) 37 [.sl x l.length (flat s1 l), sv sep] = some (sv (Lib.join l sep)) := by
  refine EP_prim (g := joinP) (by kernel_rfl) (by kernel_rfl) ?_
  unfold joinP sv
  dsimp only
  rw [strs_flat]
  dsimp only
  have e : joinB (l.map fun x => ⟨x.toArray⟩) ⟨sep.toArray⟩ = Lib.join l sep := by
    unfold joinB; simp [Function.comp_def]
  rw [e, decide_eq_true h2, List.length_map, decide_eq_true (by omega)]
  simp
def wordI (n : Int) : List UInt8 := if n = (4611686018427387904) then [109, 97, 120] else Lib.itoa n
def kl (k : Kn) : List Int := [k.cm, k.cw, k.mi, k.mx, k.hg]
theorem kl_kn {k : Kn} {i : Nat} {n : Int} (h : (kl k)[i]? = some n) : (kn k)[i]? = some (.int .i64 n) := by
  have : kn k = (kl k).map (PV.int .i64) := rfl
  rw [this, List.getElem?_map, h]; rfl
theorem kl_in {k : Kn} (hk : kR k) {i : Nat} {n : Int} (h : (kl k)[i]? = some n) : in64 n := by
  obtain ⟨h0, h1, h2, h3, h4⟩ := hk
  have hm := List.mem_of_getElem? h
  simp only [kl, List.mem_cons, List.not_mem_nil, or_false] at hm
  rcases hm with rfl | rfl | rfl | rfl | rfl <;> assumption
theorem AppV.formsE {es : Nat} {G : Heap} {v : AV} {n : Nat} {cs : List PV} (h : AppV G v .nil es n cs) : (n = 0 ∧ v = .pv (.sl .nil 0 [])) ∨ (∃ t, v = .tsl t n cs) := by
  rcases h with ⟨h1, h2, h3, _⟩ | ⟨_, _, t, h3, _⟩
  · exact .inl ⟨h1, h3⟩
  · exact .inr ⟨t, h3⟩
theorem AppV.formE {es : Nat} {G : Heap} {v : AV} {n : Nat} {cs : List PV} (h : AppV G v .nil es (n + 1) cs) : ∃ t, v = .tsl t (n + 1) cs := by
  rcases AppV.formsE h with ⟨h, _⟩ | h
  · omega
  · exact h
theorem wordI_len {n : Int} (h : in64 n) : (wordI n).length ≤ 21 := by
  unfold wordI; split
  · decide
  · exact Lib.itoa_length_le n h.1 h.2
def textL (k : Kn) : List UInt8 := Lib.join ((kl k).map wordI) [32]
theorem textL_len {k : Kn} (hk : kR k) : (textL k).length ≤ 1000 := by
  have h0 := wordI_len hk.1
  have h1 := wordI_len hk.2.1
  have h2 := wordI_len hk.2.2.1
  have h3 := wordI_len hk.2.2.2.1
  have h4 := wordI_len hk.2.2.2.2
  unfold textL kl Lib.join
  simp [List.intercalate, List.intersperse]
  omega
theorem flat_snoc1 (l : List (List UInt8)) (a : List UInt8) : flat s1 (l ++ [a]) = flat s1 l ++ s1 a := by unfold flat; simp
set_option maxHeartbeats 2000000 in
theorem text_ok (k : Kn) (hk : kR k) : EP (EE env) 23 [.agg (kn k)] = some (sv (textL k)) := by
  have hll : (kl k).length = 5 := rfl
  refine Has.eq (EP_has ?_)
  refine hgetK_has (.pcells (kn k)) rfl ?_
  refine secK_has (v := kn k) rfl (of_decide_eq_true rfl) ?_
  refine callPK_has (kparts_ok k) ?_
  refine loopK_has ?_
  refine iterE_loop (σ := Nat × AV × Heap) (fun s => 5 - s.1) (fun s => [(1, .ptr 0 0), (3, s.2.1), (7, .pv (.agg (kn k))), (8, .pv (.int .i64 s.1))]) (fun s => s.2.2)
    (fun s => s.1 ≤ 5 ∧ AppV s.2.2 s.2.1 .nil 1 s.1 (flat s1 (((kl k).take s.1).map wordI))) (fun ⟨i, v, G⟩ ⟨hi, hA⟩ r => ?_) (0, _, _) ⟨Nat.zero_le _, AppV.new rfl⟩ ⟨rfl, rfl, rfl, rfl, trivial⟩ rfl
  dsimp only at hi hA ⊢
  refine boolK_dec (fun hc => ?_) (fun hc => ?_)
  · have hlt : i < 5 := by omega
    obtain ⟨n, hn⟩ : ∃ n, (kl k)[i]? = some n := ⟨_, List.getElem?_eq_getElem (by omega)⟩
    have hst : ((kl k).take (i + 1)).map wordI = ((kl k).take i).map wordI ++ [wordI n] := by
      rw [List.take_add_one, hn, List.map_append]; rfl
    refine needK_has (by simp; omega) ?_
    refine getK_has (kl_kn hn) ?_
    refine boolK_beq (fun hu => ?_) (fun hu => ?_)
    · have hA2 := hA
      rcases AppV.formsE hA with ⟨hz, rfl⟩ | ⟨t, rfl⟩
      all_goals
        refine app_has (m := 1) (new := s1 [109, 97, 120]) hA2 rfl (by show (i + 1) * 16 ≤ 140737488355328; omega) (fun v' G7 hv' hfr ht => ?_)
        obtain ⟨tv, rfl⟩ := AppV.formE hv'
        refine eqK_has_eq _ (i64_succ (by omega)) ?_
        refine Has.intro ⟨(i + 1, _, G7), ⟨hlt, ?_⟩, (by dsimp only; omega), ⟨rfl, rfl, rfl, rfl, trivial⟩, rfl⟩
        dsimp only
        rw [hst, flat_snoc1]
        have : wordI n = [109, 97, 120] := by unfold wordI; rw [if_pos hu]
        rw [this]
        exact hv'
    · have hA2 := hA
      rcases AppV.formsE hA with ⟨hz, rfl⟩ | ⟨t, rfl⟩
      all_goals
        refine callPK_has (itoa_ok n (kl_in hk hn)) ?_
        refine app_has (m := 1) (new := s1 (Lib.itoa n)) hA2 rfl (by show (i + 1) * 16 ≤ 140737488355328; omega) (fun v' G7 hv' hfr ht => ?_)
        obtain ⟨tv, rfl⟩ := AppV.formE hv'
        refine eqK_has_eq _ (i64_succ (by omega)) ?_
        refine Has.intro ⟨(i + 1, _, G7), ⟨hlt, ?_⟩, (by dsimp only; omega), ⟨rfl, rfl, rfl, rfl, trivial⟩, rfl⟩
        dsimp only
        rw [hst, flat_snoc1]
        have : wordI n = Lib.itoa n := by unfold wordI; rw [if_neg hu]
        rw [this]
        exact hv'
  · obtain rfl : i = 5 := by omega
    have e : ((kl k).take 5).map wordI = (kl k).map wordI := rfl
    rw [e] at hA
    obtain ⟨tv, rfl⟩ := AppV.formE hA
    refine Has.intro ?_
    refine callPK_has (join_ok .nn ((kl k).map wordI) [32] (by show 5 ≤ 1000; decide) (Nat.le_trans (textL_len hk) (by decide))) ?_
    exact Has.intro (Has.intro rfl)
end Go.Proofs.YtmickbidffdklaaDoor

namespace Go.Proofs.YtmickbidffdklaaDoor
open Go Go.VM

/-- A statement that may return. -/
theorem seq_if {R : Type} {Q : R → Prop} {env : Env} {E : Orc} {a b : VCode} {r : Regs} {h : Heap} {k : Ex → Regs → Heap → Option R} (Lr : List (Nat × AV)) (Pr : Prop) (L : List (Nat × AV)) (Pn : Prop) (H : Heap)
    (ha : Has (evK env E a Res r h doneK) fun x => (x.1 = .ret ∧ Agr x.2.1 Lr ∧ x.2.2 = H ∧ Pr) ∨ (x.1 = .normal ∧ Agr x.2.1 L ∧ x.2.2 = H ∧ Pn))
    (hr : Pr → ∀ r, Has (k .ret (setL r Lr) H) Q) (hn : Pn → ∀ r, Has (evK env E b R (setL r L) H k) Q) : Has (evK env E (.seq a b) R r h k) Q := by
  refine seq_join (fun e r h => (e = .ret ∧ Agr r Lr ∧ h = H ∧ Pr) ∨ (e = .normal ∧ Agr r L ∧ h = H ∧ Pn)) ha fun e r h hj => ?_
  rcases hj with ⟨rfl, h2, rfl, h4⟩ | ⟨rfl, h2, rfl, h4⟩
  · have := hr h4 r
    rw [h2.eq] at this
    exact this
  · have := hn h4 r
    rw [h2.eq] at this
    exact this
/-- May a byte stand at a place of a name? -/
def plainc (c : UInt8) : Prop := (97 ≤ c.toNat ∧ c.toNat ≤ 122) ∨ (48 ≤ c.toNat ∧ c.toNat ≤ 57)
instance (c : UInt8) : Decidable (plainc c) := by unfold plainc; infer_instance
def okc (n i : Nat) (c : UInt8) : Bool := decide (plainc c ∨ (c.toNat = 45 ∧ i ≠ 0 ∧ i + 1 ≠ n))
def nameF (n : Nat) : Nat → List UInt8 → Bool
  | _, [] => true
  | i, c :: l => okc n i c && nameF n (i + 1) l
def nameB (l : List UInt8) : Bool := decide (0 < l.length) && decide (l.length < 17) && nameF l.length 0 l
theorem drop_of {α : Type} {l : List α} {i : Nat} {c : α} (h : l[i]? = some c) : l.drop i = c :: l.drop (i + 1) := by
  obtain ⟨hlt, he⟩ := List.getElem?_eq_some_iff.1 h
  rw [List.drop_eq_getElem_cons hlt, he]
theorem nameF_step {n i : Nat} {l : List UInt8} {c : UInt8} (h : l[i]? = some c) : nameF n i (l.drop i) = (okc n i c && nameF n (i + 1) (l.drop (i + 1))) := by
  rw [drop_of h]; rfl
theorem nameF_bad {n i : Nat} {l : List UInt8} {c : UInt8} (h : l[i]? = some c) (hb : okc n i c = false) : nameF n i (l.drop i) = false := by rw [nameF_step h, hb]; rfl
theorem nameB_f {l : List UInt8} (h : nameF l.length 0 l = false) : nameB l = false := by unfold nameB; rw [h]; simp
theorem nameF_ends : ∀ (l : List UInt8) (n i j : Nat) (c : UInt8), l[j]? = some c → okc n (i + j) c = false → nameF n i l = false := by
  intro l
  induction l with
  | nil => intro n i j c h; simp at h
  | cons d l ih =>
    intro n i j c h hb
    unfold nameF
    cases j with
    | zero =>
      simp at h; subst h
      rw [Nat.add_zero] at hb
      rw [hb]; rfl
    | succ j =>
      simp at h
      rw [ih n (i + 1) j c h (by rw [← hb]; congr 1; omega), Bool.and_false]
set_option maxHeartbeats 1000000 in
theorem name_ok (l : List UInt8) (hl : l.length ≤ maxLen) : EP (EE env) 40 [sv l] = some (.bool (nameB l)) := by
  rw [maxLen_eq] at hl
  have hsz : ((⟨l.toArray⟩ : ByteArray).size : Int) = (l.length : Int) := by rw [sv_size]
  refine Has.eq (EP_has (fn_has rfl ?_))
  refine seq_on [(0, .pv (sv l))] [] (Has.intro ⟨rfl, ⟨rfl, trivial⟩, rfl⟩) (fun r => ?_)
  refine seq_if [(2, .pv (.bool false))] (nameB l = false) [(0, .pv (sv l))] (1 ≤ l.length ∧ l.length ≤ 16 ∧ (∀ c, l[0]? = some c → c.toNat ≠ 45) ∧ (∀ c, l[l.length - 1]? = some c → c.toNat ≠ 45)) [] ?_ (fun h r => ?_) (fun ⟨h1, h2, h3, h4⟩ r => ?_)
  · refine boolK_dec (fun h1 => ?_) (fun h1 => ?_)
    · refine Has.intro (.inl ⟨rfl, ⟨rfl, trivial⟩, rfl, ?_⟩)
      unfold nameB; rw [decide_eq_false (by omega)]; rfl
    refine boolK_dec (fun h2 => ?_) (fun h2 => ?_)
    · refine Has.intro (.inl ⟨rfl, ⟨rfl, trivial⟩, rfl, ?_⟩)
      unfold nameB; rw [decide_eq_false (p := l.length < 17) (by omega)]; simp
    obtain ⟨c, hc⟩ : ∃ c, l[0]? = some c := ⟨_, List.getElem?_eq_getElem (show 0 < l.length by omega)⟩
    refine needK_has (by simp; omega) ?_
    refine getK_has hc ?_
    refine boolK_beq (fun h3 => ?_) (fun h3 => ?_)
    · refine Has.intro (.inl ⟨rfl, ⟨rfl, trivial⟩, rfl, nameB_f (nameF_ends l _ 0 0 c hc ?_)⟩)
      unfold okc; rw [decide_eq_false]; unfold plainc; omega
    refine eqK_has_eq ((l.length - 1 : Nat) : Int) ((wrap_i64 (by omega) (by omega)).trans (by omega)) ?_
    obtain ⟨d, hd⟩ : ∃ d, l[l.length - 1]? = some d := ⟨_, List.getElem?_eq_getElem (show l.length - 1 < l.length by omega)⟩
    refine needK_has (by simp; omega) ?_
    refine getK_has hd ?_
    refine boolK_beq (fun h4 => ?_) (fun h4 => ?_)
    · refine Has.intro (.inl ⟨rfl, ⟨rfl, trivial⟩, rfl, nameB_f (nameF_ends l _ 0 (l.length - 1) d hd ?_)⟩)
      unfold okc; rw [decide_eq_false]; unfold plainc; omega
    refine Has.intro (.inr ⟨rfl, ⟨rfl, trivial⟩, rfl, by omega, by omega, fun c' h => ?_, fun c' h => ?_⟩)
    · rw [hc] at h; injection h with h; subst h; omega
    · rw [hd] at h; injection h with h; subst h; omega
  · rw [h]
    exact Has.intro (Has.intro rfl)
  refine seq_if [(2, .pv (.bool false))] (nameB l = false) [] (nameB l = true) [] ?_ (fun h r => ?_) (fun h r => ?_)
  · refine loopK_has ?_
    refine iterE_loop (σ := Nat) (fun i => l.length - i) (fun i => [(0, .pv (sv l)), (26, .pv (sv l)), (27, .pv (.int .i64 l.length)), (28, .pv (.int .i64 i))]) (fun _ => []) (fun i => i ≤ l.length ∧ nameF l.length 0 l = nameF l.length i (l.drop i)) (fun i ⟨hi, he⟩ r => ?_) 0 ⟨Nat.zero_le _, rfl⟩ ⟨rfl, rfl, by rw [← hsz]; rfl, rfl, trivial⟩ rfl
    refine boolK_dec (fun hc => ?_) (fun hc => ?_)
    · have hlt : i < l.length := by omega
      obtain ⟨c, hcg⟩ : ∃ c, l[i]? = some c := ⟨_, List.getElem?_eq_getElem hlt⟩
      refine needK_has (by simp; omega) ?_
      refine getK_has hcg ?_
      have hns := nameF_step (n := l.length) hcg
      rw [hns] at he
      have hok : okc l.length i c = decide (plainc c ∨ c.toNat = 45) := by
        unfold okc
        rw [Bool.eq_iff_iff, decide_eq_true_iff, decide_eq_true_iff]
        refine or_congr Iff.rfl ⟨fun h => h.1, fun h => ⟨h, fun h0 => ?_, fun h0 => ?_⟩⟩
        · subst h0; exact h3 c hcg h
        · exact h4 c (by rw [show l.length - 1 = i by omega]; exact hcg) h
      repeat' (first
        | refine boolK_dec (fun _ => ?_) (fun _ => ?_)
        | refine boolK_bne (fun _ => ?_) (fun _ => ?_)
        | fail)
      all_goals first
        | (exfalso; omega)
        | (refine Has.intro (Has.intro (.inl ⟨rfl, ⟨rfl, trivial⟩, rfl, nameB_f ?_⟩))
           rw [he, hok, decide_eq_false (by unfold plainc; omega)]; rfl)
        | (refine eqK_has_eq _ (i64_succ (by omega)) ?_
           refine Has.intro ⟨i + 1, ⟨hlt, ?_⟩, by omega, ⟨rfl, rfl, rfl, rfl, trivial⟩, rfl⟩
           rw [he, hok, decide_eq_true (by unfold plainc; omega)]; rfl)
    · have : i = l.length := by omega
      subst this
      rw [List.drop_length] at he
      refine Has.intro (Has.intro (.inr ⟨rfl, trivial, rfl, ?_⟩))
      unfold nameB
      rw [he, decide_eq_true (show 0 < l.length by omega), decide_eq_true (show l.length < 17 by omega)]; rfl
  · rw [h]
    exact Has.intro (Has.intro rfl)
  · rw [h]
    exact Has.intro (Has.intro rfl)
set_option maxHeartbeats 1000000 in
theorem rname_ok (l : List UInt8) (hl : l.length ≤ maxLen) : EP (EE env) 39 [sv l] = some (.bool (nameB l)) := by
  rw [maxLen_eq] at hl
  have hsz : ((⟨l.toArray⟩ : ByteArray).size : Int) = (l.length : Int) := by rw [sv_size]
  refine Has.eq (EP_has (fn_has rfl ?_))
  refine seq_on [(0, .pv (sv l))] [] (Has.intro ⟨rfl, ⟨rfl, trivial⟩, rfl⟩) (fun r => ?_)
  refine seq_if [(2, .pv (.bool false))] (nameB l = false) [(0, .pv (sv l))] (nameF l.length 0 l = true) [] ?_ (fun h r => ?_) (fun h r => ?_)
  · refine loopK_has ?_
    refine iterE_loop (σ := Nat) (fun i => l.length - i) (fun i => [(0, .pv (sv l)), (3, .pv (.int .i64 i))]) (fun _ => []) (fun i => i ≤ l.length ∧ nameF l.length 0 l = nameF l.length i (l.drop i)) (fun i ⟨hi, he⟩ r => ?_) 0 ⟨Nat.zero_le _, rfl⟩ ⟨rfl, rfl, trivial⟩ rfl
    refine boolK_dec (fun hc => ?_) (fun hc => ?_)
    · have hlt : i < l.length := by omega
      obtain ⟨c, hcg⟩ : ∃ c, l[i]? = some c := ⟨_, List.getElem?_eq_getElem hlt⟩
      refine needK_has (by simp; omega) ?_
      refine getK_has hcg ?_
      have hns := nameF_step (n := l.length) hcg
      rw [hns] at he
      have hsub : IntKind.i64.wrap (((⟨l.toArray⟩ : ByteArray).size : Int) - 1) = ((l.length - 1 : Nat) : Int) := (wrap_i64 (by omega) (by omega)).trans (by omega)
      repeat' (first
        | refine boolK_dec (fun _ => ?_) (fun _ => ?_)
        | refine boolK_bne (fun _ => ?_) (fun _ => ?_)
        | refine boolK_beq (fun _ => ?_) (fun _ => ?_)
        | refine eqK_has_eq _ hsub ?_
        | fail)
      all_goals first
        | (exfalso; omega)
        | (refine Has.intro (Has.intro (.inl ⟨rfl, ⟨rfl, trivial⟩, rfl, nameB_f ?_⟩))
           rw [he]; unfold okc; rw [decide_eq_false (by unfold plainc; omega)]; rfl)
        | (refine eqK_has_eq _ (i64_succ (by omega)) ?_
           refine Has.intro ⟨i + 1, ⟨hlt, ?_⟩, by omega, ⟨rfl, rfl, trivial⟩, rfl⟩
           rw [he]; unfold okc; rw [decide_eq_true (by unfold plainc; omega)]; rfl)
    · have : i = l.length := by omega
      subst this
      rw [List.drop_length] at he
      exact Has.intro (Has.intro (.inr ⟨rfl, ⟨rfl, trivial⟩, rfl, he⟩))
  · rw [h]
    exact Has.intro (Has.intro rfl)
  · have hn : nameB l = (decide (0 < l.length) && decide (l.length < 17)) := by unfold nameB; rw [h, Bool.and_true]
    refine boolK_dec (fun h1 => ?_) (fun h1 => ?_)
    · refine boolK_dec (fun h2 => ?_) (fun h2 => ?_)
      · rw [hn, decide_eq_true (show 0 < l.length by omega), decide_eq_true (show l.length < 17 by omega)]
        exact Has.intro (Has.intro rfl)
      · rw [hn, decide_eq_true (show 0 < l.length by omega), decide_eq_false (show ¬ l.length < 17 by omega)]
        exact Has.intro (Has.intro rfl)
    · rw [hn, decide_eq_false (show ¬ 0 < l.length by omega)]
      exact Has.intro (Has.intro rfl)
end Go.Proofs.YtmickbidffdklaaDoor

namespace Go.Proofs.YtmickbidffdklaaDoor
open Go Go.VM

def fit (n : Int) : Bool := decide (-9223372036854775808 ≤ n) && decide (n ≤ 9223372036854775807)
/-- A number that fits, and that it does. -/
def told (n : Int) : PV := .tup [.int .i64 (if fit n then n else 0), .bool (fit n)]
theorem fit_true {n : Int} (h : fit n = true) : -9223372036854775808 ≤ n ∧ n ≤ 9223372036854775807 := by
  unfold fit at h; rw [Bool.and_eq_true, decide_eq_true_eq, decide_eq_true_eq] at h; exact h
theorem fit_iff (n : Int) : fit n = true ↔ -9223372036854775808 ≤ n ∧ n ≤ 9223372036854775807 := by
  unfold fit; rw [Bool.and_eq_true, decide_eq_true_eq, decide_eq_true_eq]

theorem lt0 (z : BitVec 64) : decide (z.toInt < 0) = z.msb := (BitVec.msb_eq_toInt).symm
theorem bmod_add (x y : BitVec 64) : (x + y).toInt = if fit (x.toInt + y.toInt) then x.toInt + y.toInt else if x.toInt + y.toInt < 0 then x.toInt + y.toInt + 18446744073709551616 else x.toInt + y.toInt - 18446744073709551616 := by
  have hx := toInt_range x
  have hy := toInt_range y
  rw [BitVec.toInt_add, Int.bmod_def]
  have e : ((2 ^ 64 : Nat) : Int) = 18446744073709551616 := rfl
  rw [e]
  by_cases h : fit (x.toInt + y.toInt) = true
  · rw [if_pos h]; have := fit_true h; omega
  · rw [if_neg h]
    rw [fit_iff] at h
    omega
theorem bmod_sub (x y : BitVec 64) : (x - y).toInt = if fit (x.toInt - y.toInt) then x.toInt - y.toInt else if x.toInt - y.toInt < 0 then x.toInt - y.toInt + 18446744073709551616 else x.toInt - y.toInt - 18446744073709551616 := by
  have hx := toInt_range x
  have hy := toInt_range y
  rw [BitVec.toInt_sub, Int.bmod_def]
  have e : ((2 ^ 64 : Nat) : Int) = 18446744073709551616 := rfl
  rw [e]
  by_cases h : fit (x.toInt - y.toInt) = true
  · rw [if_pos h]; have := fit_true h; omega
  · rw [if_neg h]
    rw [fit_iff] at h
    omega
theorem over_add (x y : BitVec 64) : decide (((x ^^^ (x + y)) &&& (y ^^^ (x + y))).toInt < 0) = !fit (x.toInt + y.toInt) := by
  rw [lt0, BitVec.msb_and, BitVec.msb_xor, BitVec.msb_xor, ← lt0, ← lt0, ← lt0]
  have h := bmod_add x y
  have hx := toInt_range x
  have hy := toInt_range y
  rw [Bool.eq_iff_iff]
  cases hf : fit (x.toInt + y.toInt) with
  | true =>
    rw [hf] at h; simp only [if_true] at h
    generalize (x + y).toInt = s at h ⊢
    simp
    omega
  | false =>
    rw [hf] at h; simp only [Bool.false_eq_true, if_false] at h
    have hn : ¬ (-9223372036854775808 ≤ x.toInt + y.toInt ∧ x.toInt + y.toInt ≤ 9223372036854775807) := by rw [← fit_iff, hf]; simp
    generalize (x + y).toInt = s at h ⊢
    simp
    omega
theorem over_sub (x y : BitVec 64) : decide (((x ^^^ y) &&& (x ^^^ (x - y))).toInt < 0) = !fit (x.toInt - y.toInt) := by
  rw [lt0, BitVec.msb_and, BitVec.msb_xor, BitVec.msb_xor, ← lt0, ← lt0, ← lt0]
  have h := bmod_sub x y
  have hx := toInt_range x
  have hy := toInt_range y
  rw [Bool.eq_iff_iff]
  cases hf : fit (x.toInt - y.toInt) with
  | true =>
    rw [hf] at h; simp only [if_true] at h
    generalize (x - y).toInt = s at h ⊢
    simp
    omega
  | false =>
    rw [hf] at h; simp only [Bool.false_eq_true, if_false] at h
    have hn : ¬ (-9223372036854775808 ≤ x.toInt - y.toInt ∧ x.toInt - y.toInt ≤ 9223372036854775807) := by rw [← fit_iff, hf]; simp
    generalize (x - y).toInt = s at h ⊢
    simp
    omega

theorem add_bits (x y : BitVec 64) : EP (EE env) 66 [i64 x, i64 y] = some (told (x.toInt + y.toInt)) := by
  have h := bmod_add x y
  refine Has.eq (EP_has ?_)
  refine eqK_has_eq _ (u64_of_toInt x) ?_
  refine eqK_has_eq _ (u64_of_toInt y) ?_
  refine eqK_has_eq _ (u64_add _ _) ?_
  refine eqK_has_eq _ (i64_of_toNat _) ?_
  refine eqK_has_eq _ (i64_xor _ _) ?_
  refine eqK_has_eq _ (i64_xor _ _) ?_
  refine eqK_has_eq _ (i64_and _ _) ?_
  refine boolK_has_eq (over_add x y) ?_
  cases hf : fit (x.toInt + y.toInt) with
  | true =>
    rw [hf] at h; simp only [if_true] at h
    refine Has.intro (Has.intro ?_)
    show PV.tup [.int .i64 (x + y).toInt, .bool true] = _
    unfold told
    rw [hf, h]; rfl
  | false =>
    refine Has.intro (Has.intro ?_)
    show PV.tup [.int .i64 0, .bool false] = _
    unfold told
    rw [hf]; rfl
theorem add_ok {a b : Int} (ha : fit a = true) (hb : fit b = true) : EP (EE env) 66 [.int .i64 a, .int .i64 b] = some (told (a + b)) := by
  obtain ⟨x, rfl⟩ := i64_bits (fit_true ha).1 (fit_true ha).2
  obtain ⟨y, rfl⟩ := i64_bits (fit_true hb).1 (fit_true hb).2
  exact add_bits x y
end Go.Proofs.YtmickbidffdklaaDoor

namespace Go.Proofs.YtmickbidffdklaaDoor
open Go Go.VM

structure Vc where
  c : Int
  m : Int
  h : Int
def vc (v : Vc) : List PV := [.int .i64 v.c, .int .i64 v.m, .int .i64 v.h]
def vR (v : Vc) : Prop := (0 ≤ v.c ∧ v.c ≤ 1099511627776) ∧ (0 ≤ v.m ∧ v.m ≤ 1125899906842624) ∧ (0 ≤ v.h ∧ v.h ≤ 1125899906842624) ∧ v.h % 2097152 = 0
instance (v : Vc) : Decidable (vR v) := by unfold vR; infer_instance
def vRB (v : Vc) : Bool := decide (vR v)
theorem vRB_iff {v : Vc} : vRB v = true ↔ vR v := decide_eq_true_iff
theorem vRB_t {v : Vc} (h : vR v) : vRB v = true := decide_eq_true h
theorem vRB_f {v : Vc} (h : ¬ vR v) : vRB v = false := decide_eq_false h
def fitP (r : Nat) (n : Int) : Prop := 0 ≤ n ∧ n ≤ (if r = 0 then 1099511627776 else 1125899906842624)
instance (r : Nat) (n : Int) : Decidable (fitP r n) := by unfold fitP; infer_instance
theorem parts_ok (v : Vc) : EP (EE env) 56 [.agg (vc v)] = some (.agg (vc v)) := by
  refine Has.eq (EP_has ?_)
  (repeat (first | refine hgetK_last ?_ | refine hgetK_set ?_ | refine hgetK_has _ rfl ?_ | refine needK_has rfl ?_ | refine getK_has rfl ?_ | refine secK_has rfl (by first | exact Nat.le_refl _ | decide) ?_ | refine eqK_has ?_))
  (refine Has.intro (Has.intro ?_))
  rfl
theorem of_ok (v : Vc) : EP (EE env) 73 [.agg (vc v)] = some (.agg (vc v)) := by
  refine Has.eq (EP_has ?_)
  (repeat (first | refine hgetK_last ?_ | refine hgetK_set ?_ | refine hgetK_has _ rfl ?_ | refine needK_has rfl ?_ | refine getK_has rfl ?_ | refine secK_has rfl (by first | exact Nat.le_refl _ | decide) ?_ | refine eqK_has ?_))
  (refine Has.intro (Has.intro ?_))
  rfl
theorem fits_ok (r : Nat) (n : Int) : EP (EE env) 57 [.int .i64 r, .int .i64 n] = some (.bool (decide (fitP r n))) := by
  refine Has.eq (EP_has ?_)
  refine boolK_beq (fun h => ?_) (fun h => ?_)
  all_goals
    refine boolK_dec (fun h1 => ?_) (fun h1 => ?_)
    · refine boolK_dec (fun h2 => ?_) (fun h2 => ?_)
      · rw [decide_eq_true (show fitP r n by unfold fitP; split <;> omega)]
        (refine Has.intro (Has.intro ?_))
        rfl
      · rw [decide_eq_false (show ¬ fitP r n by unfold fitP; split <;> omega)]
        (refine Has.intro (Has.intro ?_))
        rfl
    · rw [decide_eq_false (show ¬ fitP r n by unfold fitP; split <;> omega)]
      (refine Has.intro (Has.intro ?_))
      rfl
theorem and21 (n : Int) : IntKind.i64.wrap ((BitVec.ofInt IntKind.i64.bits n &&& BitVec.ofInt IntKind.i64.bits 2097151).toNat : Int) = n % 2097152 := by
  have e : (BitVec.ofInt 64 n &&& BitVec.ofInt 64 2097151).toNat = (n % 2097152).toNat := by
    rw [BitVec.toNat_and, BitVec.toNat_ofInt, show (BitVec.ofInt 64 2097151).toNat = 2 ^ 21 - 1 from rfl, Nat.and_two_pow_sub_one_eq_mod]
    simp only [Nat.reducePow]
    omega
  show IntKind.i64.wrap ((BitVec.ofInt 64 n &&& BitVec.ofInt 64 2097151).toNat : Int) = _
  rw [e, wrap_i64 (by omega) (by omega)]; omega
set_option maxHeartbeats 1000000 in
theorem right_ok (v : Vc) : EP (EE env) 41 [.agg (vc v)] = some (.bool (vRB v)) := by
  refine Has.eq (EP_has (fn_has rfl ?_))
  refine seq_on [(1, .ptr 0 0)] [.pcells (vc v)] (by (repeat (first | refine hgetK_last ?_ | refine hgetK_set ?_ | refine hgetK_has _ rfl ?_ | refine needK_has rfl ?_ | refine getK_has rfl ?_ | refine secK_has rfl (by first | exact Nat.le_refl _ | decide) ?_ | refine eqK_has ?_)); (refine Has.intro ⟨rfl, ?_, rfl⟩; (repeat (first | exact trivial | refine ⟨rfl, ?_⟩)))) (fun r => ?_)
  refine seq_if [(2, .pv (.bool false))] (¬ vR v) [(1, .ptr 0 0)] (fitP 0 v.c ∧ fitP 1 v.m ∧ fitP 2 v.h) [.pcells (vc v)] ?_ (fun h r => ?_) (fun ⟨h1, h2, h3⟩ r => ?_)
  · (repeat (first | refine hgetK_last ?_ | refine hgetK_set ?_ | refine hgetK_has _ rfl ?_ | refine needK_has rfl ?_ | refine getK_has rfl ?_ | refine secK_has rfl (by first | exact Nat.le_refl _ | decide) ?_ | refine eqK_has ?_))
    refine callPK_has (parts_ok v) ?_
    refine loopK_has ?_
    refine iterE_loop (σ := Nat) (fun i => 3 - i) (fun i => [(1, .ptr 0 0), (6, .pv (.agg (vc v))), (7, .pv (.int .i64 i))]) (fun _ => [.pcells (vc v)]) (fun i => i ≤ 3 ∧ (0 < i → fitP 0 v.c) ∧ (1 < i → fitP 1 v.m) ∧ (2 < i → fitP 2 v.h)) (fun i ⟨hi, f0, f1, f2⟩ r => ?_) 0 ⟨by decide, (by omega), (by omega), (by omega)⟩ ⟨rfl, rfl, rfl, trivial⟩ rfl
    refine boolK_dec (fun hc => ?_) (fun hc => ?_)
    · have h3 : i = 0 ∨ i = 1 ∨ i = 2 := by omega
      rcases h3 with rfl | rfl | rfl
      all_goals
        refine needK_has rfl ?_
        refine getK_has rfl ?_
        refine callPK_dec (fits_ok _ _) (fun h => ?_) (fun h => ?_)
        · refine eqK_has_eq _ (i64_succ (by decide)) ?_
          exact Has.intro ⟨_, ⟨(by decide), (fun _ => by first | exact h | exact f0 (by decide)), (fun _ => by first | exact h | exact f1 (by decide) | (exfalso; omega)), (fun _ => by first | exact h | (exfalso; omega))⟩, (by decide), ⟨rfl, rfl, rfl, trivial⟩, rfl⟩
        · refine Has.intro (Has.intro (.inl ⟨rfl, ⟨rfl, trivial⟩, rfl, fun hv => h ?_⟩))
          first
            | exact hv.1
            | exact hv.2.1
            | exact hv.2.2.1
    · have : i = 3 := by omega
      subst this
      exact Has.intro (Has.intro (.inr ⟨rfl, ⟨rfl, trivial⟩, rfl, f0 (by decide), f1 (by decide), f2 (by decide)⟩))
  · have : vRB v = false := decide_eq_false h
    rw [this]
    exact Has.intro (Has.intro rfl)
  · (repeat (first | refine hgetK_has _ rfl ?_ | refine needK_has rfl ?_ | refine getK_has rfl ?_))
    refine eqK_has_eq _ (and21 v.h) ?_
    refine boolK_has_keep ?_
    refine Has.intro (Has.intro ?_)
    show PV.bool (v.h % 2097152 == 0) = _
    congr 1
    rw [Bool.eq_iff_iff, beq_iff_eq, vRB_iff]
    exact ⟨fun h => ⟨h1, h2, h3, h⟩, fun h => h.2.2.2⟩
theorem at_ok (v : Vc) (i : Nat) (hi : i < 3) : EP (EE env) 42 [.agg (vc v), .int .i64 i] = some (.int .i64 (if i = 0 then v.c else if i = 1 then v.m else v.h)) := by
  refine Has.eq (EP_has ?_)
  have h3 : i = 0 ∨ i = 1 ∨ i = 2 := by omega
  rcases h3 with rfl | rfl | rfl
  all_goals
    refine boolK_dec_f (by decide) ?_
    refine boolK_dec_f (by decide) ?_
    (repeat (first | refine hgetK_last ?_ | refine hgetK_set ?_ | refine hgetK_has _ rfl ?_ | refine needK_has rfl ?_ | refine getK_has rfl ?_ | refine secK_has rfl (by first | exact Nat.le_refl _ | decide) ?_ | refine eqK_has ?_))
    refine callPK_has (parts_ok v) ?_
    refine needK_has rfl ?_
    refine getK_has rfl ?_
    (refine Has.intro (Has.intro ?_))
    rfl
set_option maxHeartbeats 1000000 in
theorem rright_ok (v : Vc) : EP (EE env) 43 [.agg (vc v)] = some (.bool (vRB v)) := by
  refine Has.eq (EP_has ?_)
  (repeat (first | refine hgetK_last ?_ | refine hgetK_set ?_ | refine hgetK_has _ rfl ?_ | refine needK_has rfl ?_ | refine getK_has rfl ?_ | refine secK_has rfl (by first | exact Nat.le_refl _ | decide) ?_ | refine eqK_has ?_))
  repeat' (first
    | refine boolK_dec (fun _ => ?_) (fun _ => ?_)
    | refine boolK_beq (fun _ => ?_) (fun _ => ?_)
    | refine eqK_has ?_
    | refine hgetK_has _ rfl ?_
    | refine getK_has rfl ?_
    | refine needK_has rfl ?_
    | fail)
  all_goals
    refine Has.intro (Has.intro ?_)
    first
      | exact congrArg PV.bool (vRB_t (by unfold vR; have := Int.tmod_eq_emod_of_nonneg (a := v.h) (b := 2097152) (by omega); omega)).symm
      | exact congrArg PV.bool (vRB_f (by unfold vR; omega)).symm
      | exact congrArg PV.bool (vRB_f (by unfold vR; have := Int.tmod_eq_emod_of_nonneg (a := v.h) (b := 2097152) (by omega); omega)).symm
def vadd (a b : Vc) : Vc := ⟨a.c + b.c, a.m + b.m, a.h + b.h⟩
/-- A sum of two. -/
def addV (a b : Vc) : Option Vc := if vR a ∧ vR b ∧ vR (vadd a b) then some (vadd a b) else none
def v0 : Vc := ⟨0, 0, 0⟩
def pairV (o : Option Vc) : PV := match o with
  | some v => .tup [.agg (vc v), .bool true]
  | none => .tup [.agg (vc v0), .bool false]
theorem vR_in {v : Vc} (h : vR v) : (0 ≤ v.c ∧ v.c ≤ 1125899906842624) ∧ (0 ≤ v.m ∧ v.m ≤ 1125899906842624) ∧ (0 ≤ v.h ∧ v.h ≤ 1125899906842624) := by unfold vR at h; omega
theorem cadd_ok (a b : Int) (ha : 0 ≤ a ∧ a ≤ 1125899906842624) (hb : 0 ≤ b ∧ b ≤ 1125899906842624) : EP (EE env) 66 [.int .i64 a, .int .i64 b] = some (.tup [.int .i64 (a + b), .bool true]) := by
  rw [add_ok ((fit_iff a).2 (by omega)) ((fit_iff b).2 (by omega))]
  unfold told
  rw [(fit_iff (a + b)).2 (by omega)]; rfl
set_option maxHeartbeats 1000000 in
theorem radd_ok (a b : Vc) : EP (EE env) 61 [.agg (vc a), .agg (vc b)] = some (pairV (addV a b)) := by
  refine Has.eq (EP_has ?_)
  (repeat (first | refine hgetK_last ?_ | refine hgetK_set ?_ | refine hgetK_has _ rfl ?_ | refine needK_has rfl ?_ | refine getK_has rfl ?_ | refine secK_has rfl (by first | exact Nat.le_refl _ | decide) ?_ | refine eqK_has ?_))
  refine callPK_dec (rright_ok a) (fun h1 => ?_) (fun h1 => ?_)
  · (repeat (first | refine hgetK_last ?_ | refine hgetK_set ?_ | refine hgetK_has _ rfl ?_ | refine needK_has rfl ?_ | refine getK_has rfl ?_ | refine secK_has rfl (by first | exact Nat.le_refl _ | decide) ?_ | refine eqK_has ?_))
    refine callPK_dec (rright_ok b) (fun h2 => ?_) (fun h2 => ?_)
    · have := vR_in h1
      have := vR_in h2
      (repeat (first | refine hgetK_has _ rfl ?_ | refine needK_has rfl ?_ | refine getK_has rfl ?_))
      refine eqK_has_eq (a.c + b.c) (wrap_i64 (by omega) (by omega)) ?_
      (repeat (first | refine hgetK_has _ rfl ?_ | refine needK_has rfl ?_ | refine getK_has rfl ?_))
      refine eqK_has_eq (a.m + b.m) (wrap_i64 (by omega) (by omega)) ?_
      (repeat (first | refine hgetK_has _ rfl ?_ | refine needK_has rfl ?_ | refine getK_has rfl ?_))
      refine eqK_has_eq (a.h + b.h) (wrap_i64 (by omega) (by omega)) ?_
      (repeat (first | refine hgetK_last ?_ | refine hgetK_set ?_ | refine hgetK_has _ rfl ?_ | refine needK_has rfl ?_ | refine getK_has rfl ?_ | refine secK_has rfl (by first | exact Nat.le_refl _ | decide) ?_ | refine eqK_has ?_))
      refine callPK_dec (rright_ok (vadd a b)) (fun h3 => ?_) (fun h3 => ?_)
      · (repeat (first | refine hgetK_last ?_ | refine hgetK_set ?_ | refine hgetK_has _ rfl ?_ | refine needK_has rfl ?_ | refine getK_has rfl ?_ | refine secK_has rfl (by first | exact Nat.le_refl _ | decide) ?_ | refine eqK_has ?_))
        (refine Has.intro (Has.intro ?_))
        unfold addV; rw [if_pos ⟨h1, h2, h3⟩]; rfl
      · (repeat (first | refine hgetK_last ?_ | refine hgetK_set ?_ | refine hgetK_has _ rfl ?_ | refine needK_has rfl ?_ | refine getK_has rfl ?_ | refine secK_has rfl (by first | exact Nat.le_refl _ | decide) ?_ | refine eqK_has ?_))
        (refine Has.intro (Has.intro ?_))
        unfold addV; rw [if_neg (fun h => h3 h.2.2)]; rfl
    · (repeat (first | refine hgetK_last ?_ | refine hgetK_set ?_ | refine hgetK_has _ rfl ?_ | refine needK_has rfl ?_ | refine getK_has rfl ?_ | refine secK_has rfl (by first | exact Nat.le_refl _ | decide) ?_ | refine eqK_has ?_))
      (refine Has.intro (Has.intro ?_))
      unfold addV; rw [if_neg (fun h => h2 h.2.1)]; rfl
  · (repeat (first | refine hgetK_last ?_ | refine hgetK_set ?_ | refine hgetK_has _ rfl ?_ | refine needK_has rfl ?_ | refine getK_has rfl ?_ | refine secK_has rfl (by first | exact Nat.le_refl _ | decide) ?_ | refine eqK_has ?_))
    (refine Has.intro (Has.intro ?_))
    unfold addV; rw [if_neg (fun h => h1 h.1)]; rfl
def z3 : HObj := .pcells (vc v0)
def mixV (a b : Vc) (i : Nat) : Vc := ⟨if 0 < i then a.c + b.c else a.c, if 1 < i then a.m + b.m else a.m, if 2 < i then a.h + b.h else a.h⟩
set_option maxHeartbeats 2000000 in
theorem both_ok (a b : Vc) : EP (EE env) 65 [.agg (vc a), .agg (vc b), .fn 66 [] []] = some (pairV (addV a b)) := by
  refine Has.eq (EP_has (fn_has rfl ?_))
  refine seq_on [(2, .pv (.fn 66 [] [])), (3, .ptr 0 0), (4, .ptr 1 0), (6, .ptr 2 0)] [.pcells (vc a), .pcells (vc b), z3] (by (repeat (first | refine hgetK_last ?_ | refine hgetK_set ?_ | refine hgetK_has _ rfl ?_ | refine needK_has rfl ?_ | refine getK_has rfl ?_ | refine secK_has rfl (by first | exact Nat.le_refl _ | decide) ?_ | refine eqK_has ?_)); (refine Has.intro ⟨rfl, ?_, rfl⟩; (repeat (first | exact trivial | refine ⟨rfl, ?_⟩)))) (fun r => ?_)
  refine seq_if [(6, .ptr 2 0), (7, .pv (.bool false))] (¬ (vR a ∧ vR b)) [(2, .pv (.fn 66 [] [])), (3, .ptr 0 0), (4, .ptr 1 0), (6, .ptr 2 0)] (vR a ∧ vR b) [.pcells (vc a), .pcells (vc b), z3] ?_ (fun h r => ?_) (fun ⟨h1, h2⟩ r => ?_)
  · (repeat (first | refine hgetK_last ?_ | refine hgetK_set ?_ | refine hgetK_has _ rfl ?_ | refine needK_has rfl ?_ | refine getK_has rfl ?_ | refine secK_has rfl (by first | exact Nat.le_refl _ | decide) ?_ | refine eqK_has ?_))
    refine callPK_dec (right_ok a) (fun h1 => ?_) (fun h1 => ?_)
    · (repeat (first | refine hgetK_last ?_ | refine hgetK_set ?_ | refine hgetK_has _ rfl ?_ | refine needK_has rfl ?_ | refine getK_has rfl ?_ | refine secK_has rfl (by first | exact Nat.le_refl _ | decide) ?_ | refine eqK_has ?_))
      refine callPK_dec (right_ok b) (fun h2 => ?_) (fun h2 => ?_)
      · exact Has.intro (.inr ⟨rfl, ⟨rfl, rfl, rfl, rfl, trivial⟩, rfl, h1, h2⟩)
      · (repeat (first | refine hgetK_last ?_ | refine hgetK_set ?_ | refine hgetK_has _ rfl ?_ | refine needK_has rfl ?_ | refine getK_has rfl ?_ | refine secK_has rfl (by first | exact Nat.le_refl _ | decide) ?_ | refine eqK_has ?_))
        exact Has.intro (.inl ⟨rfl, ⟨rfl, rfl, trivial⟩, rfl, fun h => h2 h.2⟩)
    · (repeat (first | refine hgetK_last ?_ | refine hgetK_set ?_ | refine hgetK_has _ rfl ?_ | refine needK_has rfl ?_ | refine getK_has rfl ?_ | refine secK_has rfl (by first | exact Nat.le_refl _ | decide) ?_ | refine eqK_has ?_))
      exact Has.intro (.inl ⟨rfl, ⟨rfl, rfl, trivial⟩, rfl, fun h => h1 h.1⟩)
  · (repeat (first | refine hgetK_last ?_ | refine hgetK_set ?_ | refine hgetK_has _ rfl ?_ | refine needK_has rfl ?_ | refine getK_has rfl ?_ | refine secK_has rfl (by first | exact Nat.le_refl _ | decide) ?_ | refine eqK_has ?_))
    refine Has.intro (Has.intro ?_)
    unfold addV; rw [if_neg (fun hh => h ⟨hh.1, hh.2.1⟩)]; rfl
  have b1 := vR_in h1
  have b2 := vR_in h2
  refine seq_on [(2, .pv (.fn 66 [] [])), (6, .ptr 2 0), (8, .ptr 3 0), (9, .ptr 4 0)] [.pcells (vc a), .pcells (vc b), z3, .pcells (vc a), .pcells (vc b)] ?_ (fun r => ?_)
  · (repeat (first | refine hgetK_last ?_ | refine hgetK_set ?_ | refine hgetK_has _ rfl ?_ | refine needK_has rfl ?_ | refine getK_has rfl ?_ | refine secK_has rfl (by first | exact Nat.le_refl _ | decide) ?_ | refine eqK_has ?_))
    refine callPK_has (parts_ok a) ?_
    (repeat (first | refine hgetK_last ?_ | refine hgetK_set ?_ | refine hgetK_has _ rfl ?_ | refine needK_has rfl ?_ | refine getK_has rfl ?_ | refine secK_has rfl (by first | exact Nat.le_refl _ | decide) ?_ | refine eqK_has ?_))
    refine callPK_has (parts_ok b) ?_
    (repeat (first | refine hgetK_last ?_ | refine hgetK_set ?_ | refine hgetK_has _ rfl ?_ | refine needK_has rfl ?_ | refine getK_has rfl ?_ | refine secK_has rfl (by first | exact Nat.le_refl _ | decide) ?_ | refine eqK_has ?_))
    (refine Has.intro ⟨rfl, ?_, rfl⟩; (repeat (first | exact trivial | refine ⟨rfl, ?_⟩)))
  refine seq_on [(6, .ptr 2 0), (8, .ptr 3 0)] [.pcells (vc a), .pcells (vc b), z3, .pcells (vc (vadd a b)), .pcells (vc b)] ?_ (fun r => ?_)
  · refine loopK_has ?_
    refine iterE_loop (σ := Nat) (fun i => 3 - i) (fun i => [(2, .pv (.fn 66 [] [])), (6, .ptr 2 0), (8, .ptr 3 0), (9, .ptr 4 0), (25, .pv (.int .i64 i))]) (fun i => [.pcells (vc a), .pcells (vc b), z3, .pcells (vc (mixV a b i)), .pcells (vc b)]) (fun i => i ≤ 3) (fun i hi r => ?_) 0 (by decide) ⟨rfl, rfl, rfl, rfl, rfl, trivial⟩ rfl
    refine boolK_dec (fun hc => ?_) (fun hc => ?_)
    · have h3 : i = 0 ∨ i = 1 ∨ i = 2 := by omega
      rcases h3 with rfl | rfl | rfl
      all_goals
        (repeat (first | refine hgetK_has _ rfl ?_ | refine needK_has rfl ?_ | refine getK_has rfl ?_))
        first
          | refine callPK_has (cadd_ok a.c b.c (by omega) (by omega)) ?_
          | refine callPK_has (cadd_ok a.m b.m (by omega) (by omega)) ?_
          | refine callPK_has (cadd_ok a.h b.h (by omega) (by omega)) ?_
        (repeat (first | refine hgetK_last ?_ | refine hgetK_set ?_ | refine hgetK_has _ rfl ?_ | refine needK_has rfl ?_ | refine getK_has rfl ?_ | refine secK_has rfl (by first | exact Nat.le_refl _ | decide) ?_ | refine eqK_has ?_))
        first
          | exact Has.intro ⟨1, (by decide), (by decide), ⟨rfl, rfl, rfl, rfl, rfl, trivial⟩, rfl⟩
          | exact Has.intro ⟨2, (by decide), (by decide), ⟨rfl, rfl, rfl, rfl, rfl, trivial⟩, rfl⟩
          | exact Has.intro ⟨3, (by decide), (by decide), ⟨rfl, rfl, rfl, rfl, rfl, trivial⟩, rfl⟩
    · have : i = 3 := by omega
      subst this
      refine Has.intro (Has.intro ?_)
      exact ⟨rfl, ⟨rfl, rfl, trivial⟩, rfl⟩
  by_cases h3 : vR (vadd a b)
  · (repeat (first | refine hgetK_last ?_ | refine hgetK_set ?_ | refine hgetK_has _ rfl ?_ | refine needK_has rfl ?_ | refine getK_has rfl ?_ | refine secK_has rfl (by first | exact Nat.le_refl _ | decide) ?_ | refine eqK_has ?_))
    refine callPK_has (of_ok (vadd a b)) ?_
    (repeat (first | refine hgetK_last ?_ | refine hgetK_set ?_ | refine hgetK_has _ rfl ?_ | refine needK_has rfl ?_ | refine getK_has rfl ?_ | refine secK_has rfl (by first | exact Nat.le_refl _ | decide) ?_ | refine eqK_has ?_))
    refine callPK_dec_t (right_ok (vadd a b)) h3 ?_
    (repeat (first | refine hgetK_last ?_ | refine hgetK_set ?_ | refine hgetK_has _ rfl ?_ | refine needK_has rfl ?_ | refine getK_has rfl ?_ | refine secK_has rfl (by first | exact Nat.le_refl _ | decide) ?_ | refine eqK_has ?_))
    refine Has.intro (Has.intro ?_)
    unfold addV; rw [if_pos ⟨h1, h2, h3⟩]; rfl
  · (repeat (first | refine hgetK_last ?_ | refine hgetK_set ?_ | refine hgetK_has _ rfl ?_ | refine needK_has rfl ?_ | refine getK_has rfl ?_ | refine secK_has rfl (by first | exact Nat.le_refl _ | decide) ?_ | refine eqK_has ?_))
    refine callPK_has (of_ok (vadd a b)) ?_
    (repeat (first | refine hgetK_last ?_ | refine hgetK_set ?_ | refine hgetK_has _ rfl ?_ | refine needK_has rfl ?_ | refine getK_has rfl ?_ | refine secK_has rfl (by first | exact Nat.le_refl _ | decide) ?_ | refine eqK_has ?_))
    refine callPK_dec_f (right_ok (vadd a b)) h3 ?_
    (repeat (first | refine hgetK_last ?_ | refine hgetK_set ?_ | refine hgetK_has _ rfl ?_ | refine needK_has rfl ?_ | refine getK_has rfl ?_ | refine secK_has rfl (by first | exact Nat.le_refl _ | decide) ?_ | refine eqK_has ?_))
    refine Has.intro (Has.intro ?_)
    unfold addV; rw [if_neg (fun hh => h3 hh.2.2)]; rfl
theorem add2_ok (a b : Vc) : EP (EE env) 60 [.agg (vc a), .agg (vc b)] = some (pairV (addV a b)) := by
  refine Has.eq (EP_has ?_)
  (repeat (first | refine hgetK_last ?_ | refine hgetK_set ?_ | refine hgetK_has _ rfl ?_ | refine needK_has rfl ?_ | refine getK_has rfl ?_ | refine secK_has rfl (by first | exact Nat.le_refl _ | decide) ?_ | refine eqK_has ?_))
  refine callPK_has (both_ok a b) ?_
  cases h : addV a b with
  | some v =>
    (repeat (first | refine hgetK_last ?_ | refine hgetK_set ?_ | refine hgetK_has _ rfl ?_ | refine needK_has rfl ?_ | refine getK_has rfl ?_ | refine secK_has rfl (by first | exact Nat.le_refl _ | decide) ?_ | refine eqK_has ?_))
    exact Has.intro (Has.intro rfl)
  | none =>
    (repeat (first | refine hgetK_last ?_ | refine hgetK_set ?_ | refine hgetK_has _ rfl ?_ | refine needK_has rfl ?_ | refine getK_has rfl ?_ | refine secK_has rfl (by first | exact Nat.le_refl _ | decide) ?_ | refine eqK_has ?_))
    exact Has.intro (Has.intro rfl)
def unlike (a b : Vc) : List PV := [.bool (a.c != b.c), .bool (a.m != b.m), .bool (a.h != b.h)]
def givenB (a b : Vc) : Bool := ((a.c == 0) != (b.c == 0)) || ((a.m == 0) != (b.m == 0))
end Go.Proofs.YtmickbidffdklaaDoor

namespace Go.Proofs.YtmickbidffdklaaDoor
open Go Go.VM

structure Ct where
  name : List UInt8
  rq : Vc
  lm : Vc
  r0 : Bool
  r1 : Bool
  r2 : Bool
def ct (c : Ct) : List PV := [sv c.name, .int .i64 c.rq.c, .int .i64 c.rq.m, .int .i64 c.rq.h, .int .i64 c.lm.c, .int .i64 c.lm.m, .int .i64 c.lm.h, .bool c.r0, .bool c.r1, .bool c.r2]
theorem ct_len (c : Ct) : (ct c).length = 10 := rfl
def cP (c : Ct) : Prop := nameB c.name = true ∧ vR c.rq ∧ vR c.lm ∧ c.rq.h = c.lm.h ∧ (c.lm.c = 0 ∨ c.rq.c ≤ c.lm.c) ∧ (c.lm.m = 0 ∨ c.rq.m ≤ c.lm.m)
instance (c : Ct) : Decidable (cP c) := by unfold cP; infer_instance
theorem name_dec (l : List UInt8) (hl : l.length ≤ maxLen) : EP (EE env) 40 [sv l] = some (.bool (decide (nameB l = true))) := (name_ok l hl).trans (by cases nameB l <;> rfl)
theorem rname_dec (l : List UInt8) (hl : l.length ≤ maxLen) : EP (EE env) 39 [sv l] = some (.bool (decide (nameB l = true))) := (rname_ok l hl).trans (by cases nameB l <;> rfl)
set_option maxHeartbeats 2000000 in
theorem ctr_ok (c : Ct) (hl : c.name.length ≤ maxLen) : EP (EE env) 26 [.agg (ct c)] = some (.bool (decide (cP c))) := by
  refine Has.eq (EP_has (fn_has rfl ?_))
  refine seq_on [(1, .ptr 0 0)] [.pcells (ct c)] (by (repeat (first | refine hgetK_last ?_ | refine hgetK_set ?_ | refine hgetK_has _ rfl ?_ | refine needK_has rfl ?_ | refine getK_has rfl ?_ | refine secK_has rfl (of_decide_eq_true rfl) ?_ | refine eqK_has ?_)); (refine Has.intro ⟨rfl, ?_, rfl⟩; (repeat (first | exact trivial | refine ⟨rfl, ?_⟩)))) (fun r => ?_)
  refine seq_if [(2, .pv (.bool false))] (¬ cP c) [(1, .ptr 0 0)] (nameB c.name = true ∧ vR c.rq ∧ vR c.lm ∧ c.rq.h = c.lm.h) [.pcells (ct c)] ?_ (fun h r => ?_) (fun ⟨h1, h2, h3, h4⟩ r => ?_)
  · (repeat (first | refine hgetK_last ?_ | refine hgetK_set ?_ | refine hgetK_has _ rfl ?_ | refine needK_has rfl ?_ | refine getK_has rfl ?_ | refine secK_has rfl (of_decide_eq_true rfl) ?_ | refine eqK_has ?_))
    refine callPK_dec (name_dec c.name hl) (fun h1 => ?_) (fun h1 => ?_)
    · (repeat (first | refine hgetK_last ?_ | refine hgetK_set ?_ | refine hgetK_has _ rfl ?_ | refine needK_has rfl ?_ | refine getK_has rfl ?_ | refine secK_has rfl (of_decide_eq_true rfl) ?_ | refine eqK_has ?_))
      refine callPK_dec (right_ok c.rq) (fun h2 => ?_) (fun h2 => ?_)
      · (repeat (first | refine hgetK_last ?_ | refine hgetK_set ?_ | refine hgetK_has _ rfl ?_ | refine needK_has rfl ?_ | refine getK_has rfl ?_ | refine secK_has rfl (of_decide_eq_true rfl) ?_ | refine eqK_has ?_))
        refine callPK_dec (right_ok c.lm) (fun h3 => ?_) (fun h3 => ?_)
        · (repeat (first | refine hgetK_last ?_ | refine hgetK_set ?_ | refine hgetK_has _ rfl ?_ | refine needK_has rfl ?_ | refine getK_has rfl ?_ | refine secK_has rfl (of_decide_eq_true rfl) ?_ | refine eqK_has ?_))
          refine boolK_bne (fun h4 => ?_) (fun h4 => ?_)
          · exact Has.intro (.inl ⟨rfl, ⟨rfl, trivial⟩, rfl, fun h => h4 h.2.2.2.1⟩)
          · exact Has.intro (.inr ⟨rfl, ⟨rfl, trivial⟩, rfl, h1, h2, h3, h4⟩)
        · (repeat (first | refine hgetK_last ?_ | refine hgetK_set ?_ | refine hgetK_has _ rfl ?_ | refine needK_has rfl ?_ | refine getK_has rfl ?_ | refine secK_has rfl (of_decide_eq_true rfl) ?_ | refine eqK_has ?_))
          exact Has.intro (.inl ⟨rfl, ⟨rfl, trivial⟩, rfl, fun h => h3 h.2.2.1⟩)
      · (repeat (first | refine hgetK_last ?_ | refine hgetK_set ?_ | refine hgetK_has _ rfl ?_ | refine needK_has rfl ?_ | refine getK_has rfl ?_ | refine secK_has rfl (of_decide_eq_true rfl) ?_ | refine eqK_has ?_))
        exact Has.intro (.inl ⟨rfl, ⟨rfl, trivial⟩, rfl, fun h => h2 h.2.1⟩)
    · (repeat (first | refine hgetK_last ?_ | refine hgetK_set ?_ | refine hgetK_has _ rfl ?_ | refine needK_has rfl ?_ | refine getK_has rfl ?_ | refine secK_has rfl (of_decide_eq_true rfl) ?_ | refine eqK_has ?_))
      exact Has.intro (.inl ⟨rfl, ⟨rfl, trivial⟩, rfl, fun h => h1 h.1⟩)
  · rw [decide_eq_false h]
    exact Has.intro (Has.intro rfl)
  have b3 := vR_in h3
  refine seq_if [(2, .pv (.bool false))] (¬ cP c) [(1, .ptr 0 0)] (cP c) [.pcells (ct c)] ?_ (fun h r => ?_) (fun h r => ?_)
  · refine loopK_has ?_
    refine iterE_loop (σ := Nat) (fun i => 2 - i) (fun i => [(1, .ptr 0 0), (3, .pv (.int .i64 i))]) (fun _ => [.pcells (ct c)]) (fun i => i ≤ 2 ∧ (0 < i → (c.lm.c = 0 ∨ c.rq.c ≤ c.lm.c)) ∧ (1 < i → (c.lm.m = 0 ∨ c.rq.m ≤ c.lm.m))) (fun i ⟨hi, f0, f1⟩ r => ?_) 0 ⟨by decide, (by omega), (by omega)⟩ ⟨rfl, rfl, trivial⟩ rfl
    refine boolK_dec (fun hc => ?_) (fun hc => ?_)
    · have h3 : i = 0 ∨ i = 1 := by omega
      rcases h3 with rfl | rfl
      all_goals
        (repeat (first | refine hgetK_has _ rfl ?_ | refine needK_has rfl ?_ | refine getK_has rfl ?_))
        (repeat (first | refine hgetK_last ?_ | refine hgetK_set ?_ | refine hgetK_has _ rfl ?_ | refine needK_has rfl ?_ | refine getK_has rfl ?_ | refine secK_has rfl (of_decide_eq_true rfl) ?_ | refine eqK_has ?_))
        refine callPK_has (at_ok c.lm _ (by decide)) ?_
        refine boolK_dec (fun g1 => ?_) (fun g1 => ?_)
        · (repeat (first | refine hgetK_last ?_ | refine hgetK_set ?_ | refine hgetK_has _ rfl ?_ | refine needK_has rfl ?_ | refine getK_has rfl ?_ | refine secK_has rfl (of_decide_eq_true rfl) ?_ | refine eqK_has ?_))
          refine callPK_has (at_ok c.rq _ (by decide)) ?_
          refine boolK_dec (fun g2 => ?_) (fun g2 => ?_)
          · simp only [if_true, if_false, Nat.one_ne_zero] at g1 g2
            refine Has.intro (Has.intro (.inl ⟨rfl, ⟨rfl, trivial⟩, rfl, fun h => ?_⟩))
            have := h.2.2.2.2
            omega
          · simp only [if_true, if_false, Nat.one_ne_zero] at g1 g2
            (repeat (first | refine hgetK_last ?_ | refine hgetK_set ?_ | refine hgetK_has _ rfl ?_ | refine needK_has rfl ?_ | refine getK_has rfl ?_ | refine secK_has rfl (of_decide_eq_true rfl) ?_ | refine eqK_has ?_))
            first
              | exact Has.intro ⟨1, ⟨(by decide), (fun _ => by omega), (by omega)⟩, (by decide), ⟨rfl, rfl, trivial⟩, rfl⟩
              | exact Has.intro ⟨2, ⟨(by decide), (fun _ => f0 (by decide)), (fun _ => by omega)⟩, (by decide), ⟨rfl, rfl, trivial⟩, rfl⟩
        · simp only [if_true, if_false, Nat.one_ne_zero] at g1
          (repeat (first | refine hgetK_last ?_ | refine hgetK_set ?_ | refine hgetK_has _ rfl ?_ | refine needK_has rfl ?_ | refine getK_has rfl ?_ | refine secK_has rfl (of_decide_eq_true rfl) ?_ | refine eqK_has ?_))
          first
            | exact Has.intro ⟨1, ⟨(by decide), (fun _ => by omega), (by omega)⟩, (by decide), ⟨rfl, rfl, trivial⟩, rfl⟩
            | exact Has.intro ⟨2, ⟨(by decide), (fun _ => f0 (by decide)), (fun _ => by omega)⟩, (by decide), ⟨rfl, rfl, trivial⟩, rfl⟩
    · have : i = 2 := by omega
      subst this
      exact Has.intro (Has.intro (.inr ⟨rfl, ⟨rfl, trivial⟩, rfl, h1, h2, h3, h4, f0 (by decide), f1 (by decide)⟩))
  · rw [decide_eq_false h]
    exact Has.intro (Has.intro rfl)
  · rw [decide_eq_true h]
    exact Has.intro (Has.intro rfl)
set_option maxHeartbeats 2000000 in
theorem rctr_ok (c : Ct) (hl : c.name.length ≤ maxLen) : EP (EE env) 28 [.agg (ct c)] = some (.bool (decide (cP c))) := by
  refine Has.eq (EP_has (fn_has rfl ?_))
  refine seq_on [(1, .ptr 0 0)] [.pcells (ct c)] (by (repeat (first | refine hgetK_last ?_ | refine hgetK_set ?_ | refine hgetK_has _ rfl ?_ | refine needK_has rfl ?_ | refine getK_has rfl ?_ | refine secK_has rfl (of_decide_eq_true rfl) ?_ | refine eqK_has ?_)); (refine Has.intro ⟨rfl, ?_, rfl⟩; (repeat (first | exact trivial | refine ⟨rfl, ?_⟩)))) (fun r => ?_)
  refine seq_on [(1, .ptr 0 0), (3, .ptr 1 0), (4, .ptr 2 0)] [.pcells (ct c), .pcells (vc c.rq), .pcells (vc c.lm)] ?_ (fun r => ?_)
  · (repeat (first | refine hgetK_last ?_ | refine hgetK_set ?_ | refine hgetK_has _ rfl ?_ | refine needK_has rfl ?_ | refine getK_has rfl ?_ | refine secK_has rfl (of_decide_eq_true rfl) ?_ | refine eqK_has ?_))
    refine sameK_has rfl rfl ?_
    (refine Has.intro ⟨rfl, ?_, rfl⟩; (repeat (first | exact trivial | refine ⟨rfl, ?_⟩)))
  (repeat (first | refine hgetK_last ?_ | refine hgetK_set ?_ | refine hgetK_has _ rfl ?_ | refine needK_has rfl ?_ | refine getK_has rfl ?_ | refine secK_has rfl (of_decide_eq_true rfl) ?_ | refine eqK_has ?_))
  refine callPK_dec (rname_dec c.name hl) (fun h1 => ?_) (fun h1 => ?_)
  · (repeat (first | refine hgetK_last ?_ | refine hgetK_set ?_ | refine hgetK_has _ rfl ?_ | refine needK_has rfl ?_ | refine getK_has rfl ?_ | refine secK_has rfl (of_decide_eq_true rfl) ?_ | refine eqK_has ?_))
    refine callPK_dec (rright_ok c.rq) (fun h2 => ?_) (fun h2 => ?_)
    · (repeat (first | refine hgetK_last ?_ | refine hgetK_set ?_ | refine hgetK_has _ rfl ?_ | refine needK_has rfl ?_ | refine getK_has rfl ?_ | refine secK_has rfl (of_decide_eq_true rfl) ?_ | refine eqK_has ?_))
      refine callPK_dec (rright_ok c.lm) (fun h3 => ?_) (fun h3 => ?_)
      · have b3 := vR_in h3
        (repeat (first | refine hgetK_last ?_ | refine hgetK_set ?_ | refine hgetK_has _ rfl ?_ | refine needK_has rfl ?_ | refine getK_has rfl ?_ | refine secK_has rfl (of_decide_eq_true rfl) ?_ | refine eqK_has ?_))
        refine boolK_beq (fun g1 => ?_) (fun g1 => ?_)
        all_goals (repeat (first | refine hgetK_has _ rfl ?_ | refine needK_has rfl ?_ | refine getK_has rfl ?_))
        all_goals (try refine boolK_dec (fun g2 => ?_) (fun g2 => ?_))
        all_goals (repeat (first | refine hgetK_has _ rfl ?_ | refine needK_has rfl ?_ | refine getK_has rfl ?_))
        all_goals (try refine boolK_beq (fun g3 => ?_) (fun g3 => ?_))
        all_goals (repeat (first | refine hgetK_has _ rfl ?_ | refine needK_has rfl ?_ | refine getK_has rfl ?_))
        all_goals (try refine boolK_dec (fun g4 => ?_) (fun g4 => ?_))
        all_goals (repeat (first | refine hgetK_has _ rfl ?_ | refine needK_has rfl ?_ | refine getK_has rfl ?_))
        all_goals (try refine boolK_beq (fun g5 => ?_) (fun g5 => ?_))
        all_goals
          refine Has.intro (Has.intro ?_)
          first
            | exact yes (p := cP c) ⟨h1, h2, h3, (by omega), (by omega), (by omega)⟩
            | exact no (p := cP c) (fun h => by have := h.2.2.2; omega)
      · (repeat (first | refine hgetK_last ?_ | refine hgetK_set ?_ | refine hgetK_has _ rfl ?_ | refine needK_has rfl ?_ | refine getK_has rfl ?_ | refine secK_has rfl (of_decide_eq_true rfl) ?_ | refine eqK_has ?_))
        exact Has.intro (Has.intro (no (fun h => h3 h.2.2.1)))
    · (repeat (first | refine hgetK_last ?_ | refine hgetK_set ?_ | refine hgetK_has _ rfl ?_ | refine needK_has rfl ?_ | refine getK_has rfl ?_ | refine secK_has rfl (of_decide_eq_true rfl) ?_ | refine eqK_has ?_))
      exact Has.intro (Has.intro (no (fun h => h2 h.2.1)))
  · (repeat (first | refine hgetK_last ?_ | refine hgetK_set ?_ | refine hgetK_has _ rfl ?_ | refine needK_has rfl ?_ | refine getK_has rfl ?_ | refine secK_has rfl (of_decide_eq_true rfl) ?_ | refine eqK_has ?_))
    exact Has.intro (Has.intro (no (fun h => h1 h.1)))
end Go.Proofs.YtmickbidffdklaaDoor

namespace Go.Proofs.YtmickbidffdklaaDoor
open Go Go.VM

/-- A list of containers, as a slice. -/
def SL (v : AV) (H : Heap) (l : List Ct) : Prop := (∃ x, v = .pv (.sl x l.length (flat ct l))) ∨ (∃ id cap, v = .hs 10 id 0 l.length cap ∧ hget H id = .pcells (flat ct l))
theorem SL.grow {v : AV} {H : Heap} {l : List Ct} (h : SL v H l) (J : Heap) : SL v (H ++ J) l := by
  rcases h with h | ⟨id, cap, h1, h2⟩
  · exact .inl h
  · exact .inr ⟨id, cap, h1, (hget_app J (hget_lt h2 ((by intro h; cases h)))).trans h2⟩
def findF (name : List UInt8) : Nat → List Ct → Int
  | _, [] => -1
  | i, c :: l => if c.name = name then (i : Int) else findF name (i + 1) l
def findI (name : List UInt8) (l : List Ct) : Int := findF name 0 l
theorem findF_step {name : List UInt8} {l : List Ct} {i : Nat} {c : Ct} (h : l[i]? = some c) : findF name i (l.drop i) = if c.name = name then (i : Int) else findF name (i + 1) (l.drop (i + 1)) := by
  rw [drop_of h]; rfl
theorem str_beq (a b : List UInt8) : ((⟨a.toArray⟩ : ByteArray).toList == (⟨b.toArray⟩ : ByteArray).toList) = decide (a = b) := by
  rw [Bool.eq_iff_iff]; simp
theorem at10 (i : Nat) : addO 0 (mulE ((i : Nat) : Int).toNat 10) = i * 10 := by
  show mulE i 10 = _
  rw [mulE_eq]
theorem is_ok (c : Ct) (name : List UInt8) (q : Nat) (H : Heap) (hq : hget H q = .pcells [sv name]) :
    EE env (.fn 59) [.pv (.agg (ct c)), .ptr q 0] H = some (.pv (.bool (decide (c.name = name))), H ++ [.pcells (ct c)]) := by
  refine Has.eq (EE_has ?_)
  (repeat (first | refine hgetK_last ?_ | refine hgetK_set ?_ | refine needK_has rfl ?_ | refine getK_has rfl ?_ | refine secK_has rfl (of_decide_eq_true rfl) ?_ | refine eqK_has ?_))
  refine hgetK_has _ ((hget_app _ (hget_lt hq ((by intro h; cases h)))).trans hq) ?_
  refine getK_has rfl ?_
  refine boolK_has_eq (c := decide (c.name = name)) ?_ ?_
  · exact str_beq c.name name
  exact Has.intro rfl
set_option maxHeartbeats 1000000 in
theorem index_ok (v : AV) (l : List Ct) (hl : l.length ≤ maxLen) (name : List UInt8) (q : Nat) (H : Heap) (hv : SL v H l) (hq : hget H q = .pcells [sv name]) :
    Has (EE env (.fn 58) [v, .fn 59 [] [.ptr q 0]] H) (fun y => y.1 = .pv (.int .i64 (findI name l)) ∧ ∃ J, y.2 = H ++ J) := by
  rw [maxLen_eq] at hl
  refine EE_has ?_
  rcases id hv with ⟨x, rfl⟩ | ⟨id, cap, rfl, hid⟩
  · skip
    refine loopK_has ?_
    refine iterE_loopJ (σ := Nat) (fun i => l.length - i) (fun i => [(0, .pv (.sl x l.length (flat ct l))), (1, .fn 59 [] [.ptr q 0]), (6, .pv (.sl x l.length (flat ct l))), (7, .pv (.int .i64 l.length)), (8, .pv (.int .i64 i))]) (fun _ => H) (fun i => i ≤ l.length ∧ findI name l = findF name i (l.drop i)) (fun i ⟨hi, he⟩ r J => ?_) 0 ⟨Nat.zero_le _, rfl⟩ [] ⟨rfl, rfl, rfl, rfl, rfl, trivial⟩ (List.append_nil _).symm
    refine boolK_dec (fun hc => ?_) (fun hc => ?_)
    · have hlt : i < l.length := by omega
      obtain ⟨c, hcg⟩ : ∃ c, l[i]? = some c := ⟨_, List.getElem?_eq_getElem hlt⟩
      obtain ⟨g1, g2⟩ := flat_get ct_len hcg
      rw [findF_step hcg] at he
      have hq' := (hget_app J (hget_lt hq ((by intro h; cases h)))).trans hq
      refine needK_has (by (first | rfl | (simp; done) | (simp; omega))) ?_
      refine secK_has g1 g2 ?_
      refine callSK_has (is_ok c name q _ hq') ?_
      by_cases hn : c.name = name
      · rw [decide_eq_true hn]
        rw [if_pos hn] at he
        refine Has.intro (Has.intro ⟨?_, _, List.append_assoc _ _ _⟩)
        rw [he]; rfl
      · rw [decide_eq_false hn]
        rw [if_neg hn] at he
        refine eqK_has_eq _ (i64_succ (by omega)) ?_
        exact Has.intro ⟨i + 1, ⟨hlt, he⟩, by omega, ⟨rfl, rfl, rfl, rfl, rfl, trivial⟩, _, List.append_assoc _ _ _⟩
    · have : i = l.length := by omega
      subst this
      rw [List.drop_length] at he
      refine Has.intro (Has.intro ⟨?_, J, rfl⟩)
      rw [he]; rfl
  · skip
    refine loopK_has ?_
    refine iterE_loopJ (σ := Nat) (fun i => l.length - i) (fun i => [(0, .hs 10 id 0 l.length cap), (1, .fn 59 [] [.ptr q 0]), (6, .hs 10 id 0 l.length cap), (7, .pv (.int .i64 l.length)), (8, .pv (.int .i64 i))]) (fun _ => H) (fun i => i ≤ l.length ∧ findI name l = findF name i (l.drop i)) (fun i ⟨hi, he⟩ r J => ?_) 0 ⟨Nat.zero_le _, rfl⟩ [] ⟨rfl, rfl, rfl, rfl, rfl, trivial⟩ (List.append_nil _).symm
    refine boolK_dec (fun hc => ?_) (fun hc => ?_)
    · have hlt : i < l.length := by omega
      obtain ⟨c, hcg⟩ : ∃ c, l[i]? = some c := ⟨_, List.getElem?_eq_getElem hlt⟩
      obtain ⟨g1, g2⟩ := flat_get ct_len hcg
      rw [findF_step hcg] at he
      have hq' := (hget_app J (hget_lt hq ((by intro h; cases h)))).trans hq
      refine needK_has (by (first | rfl | (simp; done) | (simp; omega))) ?_
      refine hgetK_has _ ((hget_app J (hget_lt hid ((by intro h; cases h)))).trans hid) ?_
      refine secK_has (v := ct c) (by rw [at10]; exact g1) (by rw [at10]; exact g2) ?_
      refine callSK_has (is_ok c name q _ hq') ?_
      by_cases hn : c.name = name
      · rw [decide_eq_true hn]
        rw [if_pos hn] at he
        refine Has.intro (Has.intro ⟨?_, _, List.append_assoc _ _ _⟩)
        rw [he]; rfl
      · rw [decide_eq_false hn]
        rw [if_neg hn] at he
        refine eqK_has_eq _ (i64_succ (by omega)) ?_
        exact Has.intro ⟨i + 1, ⟨hlt, he⟩, by omega, ⟨rfl, rfl, rfl, rfl, rfl, trivial⟩, _, List.append_assoc _ _ _⟩
    · have : i = l.length := by omega
      subst this
      rw [List.drop_length] at he
      refine Has.intro (Has.intro ⟨?_, J, rfl⟩)
      rw [he]; rfl
end Go.Proofs.YtmickbidffdklaaDoor

namespace Go.Proofs.YtmickbidffdklaaDoor
open Go Go.VM

structure Pd where
  name : List UInt8
  prio : Int
  pol : Int
  l : List Ct
def pdc (p : Pd) (x : Ext) : List PV := [sv p.name, .int .i64 p.prio, .int .i64 p.pol, .sl x p.l.length (flat ct p.l)]
def pdh (p : Pd) (id cap : Nat) : List AV := [.pv (sv p.name), .pv (.int .i64 p.prio), .pv (.int .i64 p.pol), .hs 10 id 0 p.l.length cap]
/-- A pod, as a value. -/
def PA (u : AV) (H : Heap) (p : Pd) : Prop := (∃ x, u = .pv (.agg (pdc p x))) ∨ (∃ id cap, u = .agg (pdh p id cap) ∧ hget H id = .pcells (flat ct p.l))
theorem PA.grow {u : AV} {H : Heap} {p : Pd} (h : PA u H p) (J : Heap) : PA u (H ++ J) p := by
  rcases h with h | ⟨id, cap, h1, h2⟩
  · exact .inl h
  · exact .inr ⟨id, cap, h1, (hget_app J (hget_lt h2 ((by intro h; cases h)))).trans h2⟩
def foundB (n : Int) : PV := .tup [.int .i64 (if 0 > n then 0 else n), .bool (decide (n ≥ 0))]
set_option maxHeartbeats 1000000 in
theorem find_ok (u : AV) (p : Pd) (hl : p.l.length ≤ maxLen) (name : List UInt8) (H : Heap) (hu : PA u H p) :
    Has (EE env (.fn 44) [u, .pv (sv name)] H) (fun y => y.1 = .pv (foundB (findI name p.l)) ∧ ∃ J, y.2 = H ++ J) := by
  refine EE_has ?_
  rcases id hu with ⟨x, rfl⟩ | ⟨id, cap, rfl, hid⟩
  · refine hgetK_has (.pcells (pdc p x)) ((hget_app _ (by simp)).trans (hget_append_same H _)) ?_
    refine getK_has rfl ?_
    refine callSK_has' ((index_ok _ p.l hl name (H ++ [HObj.pcells (pdc p x)]).length ((H ++ [HObj.pcells (pdc p x)]) ++ [HObj.pcells [sv name]]) (.inl ⟨x, rfl⟩) (hget_append_same _ _)).mono fun y hy => ?_)
    obtain ⟨v, H'⟩ := y
    obtain ⟨rfl, J, rfl⟩ := hy
    (repeat (first | refine hgetK_last ?_ | refine hgetK_set ?_ | refine needK_has rfl ?_ | refine getK_has rfl ?_ | refine secK_has rfl (of_decide_eq_true rfl) ?_ | refine eqK_has ?_))
    refine boolK_has_keep ?_
    refine Has.intro ⟨rfl, [HObj.pcells (pdc p x)] ++ [HObj.pcells [sv name]] ++ J, by simp⟩
  · refine hgetK_has (.cells (pdh p id cap)) ((hget_app _ (by simp)).trans (hget_append_same H _)) ?_
    have hid' := (hget_app ([HObj.cells (pdh p id cap)] ++ [HObj.pcells [sv name]]) (hget_lt hid ((by intro h; cases h)))).trans hid
    rw [← List.append_assoc] at hid'
    refine callSK_has' ((index_ok _ p.l hl name (H ++ [HObj.cells (pdh p id cap)]).length ((H ++ [HObj.cells (pdh p id cap)]) ++ [HObj.pcells [sv name]]) (.inr ⟨id, cap, rfl, hid'⟩) (hget_append_same _ _)).mono fun y hy => ?_)
    obtain ⟨v, H'⟩ := y
    obtain ⟨rfl, J, rfl⟩ := hy
    (repeat (first | refine hgetK_last ?_ | refine hgetK_set ?_ | refine needK_has rfl ?_ | refine getK_has rfl ?_ | refine secK_has rfl (of_decide_eq_true rfl) ?_ | refine eqK_has ?_))
    refine boolK_has_keep ?_
    refine Has.intro ⟨rfl, [HObj.cells (pdh p id cap)] ++ [HObj.pcells [sv name]] ++ J, by simp⟩
end Go.Proofs.YtmickbidffdklaaDoor

namespace Go.Proofs.YtmickbidffdklaaDoor
open Go Go.VM

def sumF (acc : Vc) : List Vc → Option Vc
  | [] => some acc
  | v :: l => match addV acc v with
    | some s => sumF s l
    | none => none
def sumV (l : List Vc) : Option Vc := sumF v0 l
theorem vc_len (v : Vc) : (vc v).length = 3 := rfl
theorem sumF_step {acc : Vc} {l : List Vc} {i : Nat} {v : Vc} (h : l[i]? = some v) : sumF acc (l.drop i) = match addV acc v with
    | some s => sumF s (l.drop (i + 1))
    | none => none := by rw [drop_of h]; rfl
theorem sumV_none {l : List Vc} {acc : Vc} {v : Vc} {i : Nat} (h : sumV l = sumF acc (l.drop i)) (hg : l[i]? = some v) (ha : addV acc v = none) : sumV l = none := by
  rw [h, sumF_step hg, ha]
theorem sumV_some {l : List Vc} {acc : Vc} {v s : Vc} {i : Nat} (h : sumV l = sumF acc (l.drop i)) (hg : l[i]? = some v) (ha : addV acc v = some s) : sumV l = sumF s (l.drop (i + 1)) := by
  rw [h, sumF_step hg, ha]
def zc3 : List PV := [.int .i64 0, .int .i64 0, .int .i64 0]
set_option maxHeartbeats 1000000 in
theorem sum_ok (x : Ext) (l : List Vc) (hl : l.length ≤ maxLen) : EP (EE env) 46 [.sl x l.length (flat vc l)] = some (pairV (sumV l)) := by
  rw [maxLen_eq] at hl
  refine Has.eq (EP_has ?_)
  refine loopK_has ?_
  refine iterE_loop (σ := Nat × Vc × Heap) (fun s => l.length - s.1) (fun s => [(2, .ptr 0 0), (4, .ptr 1 0), (9, .pv (.sl x l.length (flat vc l))), (10, .pv (.int .i64 l.length)), (11, .pv (.int .i64 s.1))]) (fun s => s.2.2) (fun s => s.1 ≤ l.length ∧ sumV l = sumF s.2.1 (l.drop s.1) ∧ hget s.2.2 0 = z3 ∧ hget s.2.2 1 = .pcells (vc s.2.1)) (fun ⟨i, acc, G⟩ ⟨hi, he, h0, h1⟩ r => ?_) (0, v0, [z3, z3]) ⟨Nat.zero_le _, rfl, rfl, rfl⟩ ⟨rfl, rfl, rfl, rfl, rfl, trivial⟩ rfl
  dsimp only at hi he h0 h1 ⊢
  refine boolK_dec (fun hc => ?_) (fun hc => ?_)
  · have hlt : i < l.length := by omega
    obtain ⟨v, hcg⟩ : ∃ c, l[i]? = some c := ⟨_, List.getElem?_eq_getElem hlt⟩
    obtain ⟨g1, g2⟩ := flat_get vc_len hcg
    refine needK_has (by (first | rfl | (simp; done) | (simp; omega))) ?_
    refine secK_has g1 g2 ?_
    refine hgetK_last ?_
    refine needK_has rfl ?_
    refine eqK_has_eq (vc v) rfl ?_
    have h0 := keep2 (.pcells ([PV.int IntKind.i64 0, PV.int IntKind.i64 0, PV.int IntKind.i64 0])) (.pcells (vc v)) h0 ((by intro h; cases h))
    have h1 := keep2 (.pcells ([PV.int IntKind.i64 0, PV.int IntKind.i64 0, PV.int IntKind.i64 0])) (.pcells (vc v)) h1 ((by intro h; cases h))
    have h6 := hget_hset_same (H := G ++ [HObj.pcells ([PV.int IntKind.i64 0, PV.int IntKind.i64 0, PV.int IntKind.i64 0])]) (id := G.length) (.pcells (vc v)) (by simp)
    refine hgetK_has _ h1 ?_
    refine secK_has (v := vc acc) rfl (Nat.le_refl _) ?_
    refine hgetK_has _ h6 ?_
    refine secK_has (v := vc v) rfl (Nat.le_refl _) ?_
    generalize hset (G ++ [HObj.pcells ([PV.int IntKind.i64 0, PV.int IntKind.i64 0, PV.int IntKind.i64 0])]) G.length (.pcells (vc v)) = G at *
    refine callPK_has (add2_ok acc v) ?_
    cases ha : addV acc v with
    | some s =>
      refine hgetK_last ?_
      refine needK_has rfl ?_
      refine eqK_has_eq (vc s) rfl ?_
      have h0 := keep2 (.pcells ([PV.int IntKind.i64 0, PV.int IntKind.i64 0, PV.int IntKind.i64 0])) (.pcells (vc s)) h0 ((by intro h; cases h))
      have h1 := keep2 (.pcells ([PV.int IntKind.i64 0, PV.int IntKind.i64 0, PV.int IntKind.i64 0])) (.pcells (vc s)) h1 ((by intro h; cases h))
      have h6 := hget_hset_same (H := G ++ [HObj.pcells ([PV.int IntKind.i64 0, PV.int IntKind.i64 0, PV.int IntKind.i64 0])]) (id := G.length) (.pcells (vc s)) (by simp)
      refine hgetK_has _ h6 ?_
      refine secK_has (v := vc s) rfl (Nat.le_refl _) ?_
      refine hgetK_has _ h1 ?_
      refine needK_has rfl ?_
      refine eqK_has_eq (vc s) rfl ?_
      refine eqK_has_eq _ (i64_succ (by omega)) ?_
      exact Has.intro ⟨(i + 1, s, _), ⟨hlt, sumV_some he hcg ha, (hget_hset_ne _ _ (by decide)).trans h0, hget_hset_same _ (hget_lt h1 ((by intro h; cases h)))⟩, by dsimp only; omega, ⟨rfl, rfl, rfl, rfl, rfl, trivial⟩, rfl⟩
    | none =>
      refine hgetK_last ?_
      refine needK_has rfl ?_
      refine eqK_has_eq ([PV.int IntKind.i64 0, PV.int IntKind.i64 0, PV.int IntKind.i64 0]) rfl ?_
      have h0 := keep2 (.pcells ([PV.int IntKind.i64 0, PV.int IntKind.i64 0, PV.int IntKind.i64 0])) (.pcells ([PV.int IntKind.i64 0, PV.int IntKind.i64 0, PV.int IntKind.i64 0])) h0 ((by intro h; cases h))
      refine hgetK_has _ h0 ?_
      refine needK_has rfl ?_
      refine eqK_has_eq ([PV.int IntKind.i64 0, PV.int IntKind.i64 0, PV.int IntKind.i64 0]) rfl ?_
      refine Has.intro ?_
      refine hgetK_has (.pcells ([PV.int IntKind.i64 0, PV.int IntKind.i64 0, PV.int IntKind.i64 0])) (hget_hset_same _ (hget_lt h0 ((by intro h; cases h)))) ?_
      refine secK_has (v := ([PV.int IntKind.i64 0, PV.int IntKind.i64 0, PV.int IntKind.i64 0])) rfl (Nat.le_refl _) ?_
      refine Has.intro (Has.intro ?_)
      rw [sumV_none he hcg ha]; rfl
  · have : i = l.length := by omega
    subst this
    rw [List.drop_length] at he
    refine Has.intro ?_
    refine hgetK_has _ h1 ?_
    refine secK_has (v := vc acc) rfl (Nat.le_refl _) ?_
    refine hgetK_has _ h0 ?_
    refine needK_has rfl ?_
    refine eqK_has_eq (vc acc) rfl ?_
    refine hgetK_has (.pcells (vc acc)) (hget_hset_same _ (hget_lt h0 ((by intro h; cases h)))) ?_
    refine secK_has (v := vc acc) rfl (Nat.le_refl _) ?_
    refine Has.intro (Has.intro ?_)
    rw [he]; rfl
set_option maxHeartbeats 1000000 in
theorem rsum_ok (x : Ext) (l : List Vc) (hl : l.length ≤ maxLen) : EP (EE env) 47 [.sl x l.length (flat vc l)] = some (pairV (sumV l)) := by
  rw [maxLen_eq] at hl
  refine Has.eq (EP_has ?_)
  (repeat (first | refine hgetK_last ?_ | refine hgetK_set ?_ | refine needK_has rfl ?_ | refine getK_has rfl ?_ | refine secK_has rfl (of_decide_eq_true rfl) ?_ | refine eqK_has ?_))
  refine loopK_has ?_
  refine iterE_loop (σ := Nat × Option Vc × Heap) (fun s => l.length - s.1) (fun s => [(2, .ptr 0 0), (4, .ptr 1 0), (5, .pv (.bool s.2.1.isSome)), (9, .pv (.sl x l.length (flat vc l))), (10, .pv (.int .i64 l.length)), (11, .pv (.int .i64 s.1))]) (fun s => s.2.2) (fun s => s.1 ≤ l.length ∧ (sumV l = match s.2.1 with | some acc => sumF acc (l.drop s.1) | none => none) ∧ hget s.2.2 0 = z3 ∧ hget s.2.2 1 = .pcells (vc (s.2.1.getD v0))) (fun ⟨i, oa, G⟩ ⟨hi, he, h0, h1⟩ r => ?_) (0, some v0, [z3, z3]) ⟨Nat.zero_le _, rfl, rfl, rfl⟩ ⟨rfl, rfl, rfl, rfl, rfl, rfl, trivial⟩ rfl
  dsimp only at hi he h0 h1 ⊢
  refine boolK_dec (fun hc => ?_) (fun hc => ?_)
  · have hlt : i < l.length := by omega
    obtain ⟨v, hcg⟩ : ∃ c, l[i]? = some c := ⟨_, List.getElem?_eq_getElem hlt⟩
    obtain ⟨g1, g2⟩ := flat_get vc_len hcg
    refine needK_has (by (first | rfl | (simp; done) | (simp; omega))) ?_
    refine secK_has g1 g2 ?_
    refine hgetK_last ?_
    refine needK_has rfl ?_
    refine eqK_has_eq (vc v) rfl ?_
    have h0 := keep2 (.pcells ([PV.int IntKind.i64 0, PV.int IntKind.i64 0, PV.int IntKind.i64 0])) (.pcells (vc v)) h0 ((by intro h; cases h))
    have h1 := keep2 (.pcells ([PV.int IntKind.i64 0, PV.int IntKind.i64 0, PV.int IntKind.i64 0])) (.pcells (vc v)) h1 ((by intro h; cases h))
    have h6 := hget_hset_same (H := G ++ [HObj.pcells ([PV.int IntKind.i64 0, PV.int IntKind.i64 0, PV.int IntKind.i64 0])]) (id := G.length) (.pcells (vc v)) (by simp)
    cases oa with
    | some acc =>
      dsimp only at he
      refine hgetK_has _ h1 ?_
      refine secK_has (v := vc acc) rfl (Nat.le_refl _) ?_
      refine hgetK_has _ h6 ?_
      refine secK_has (v := vc v) rfl (Nat.le_refl _) ?_
      generalize hset (G ++ [HObj.pcells ([PV.int IntKind.i64 0, PV.int IntKind.i64 0, PV.int IntKind.i64 0])]) G.length (.pcells (vc v)) = G at *
      refine callPK_has (radd_ok acc v) ?_
      cases ha : addV acc v with
      | some s =>
        refine hgetK_has _ h1 ?_
        refine needK_has rfl ?_
        refine eqK_has_eq (vc s) rfl ?_
        refine eqK_has_eq _ (i64_succ (by omega)) ?_
        exact Has.intro ⟨(i + 1, some s, _), ⟨hlt, sumV_some he hcg ha, (hget_hset_ne _ _ (by decide)).trans h0, hget_hset_same _ (hget_lt h1 ((by intro h; cases h)))⟩, by dsimp only; omega, ⟨rfl, rfl, rfl, rfl, rfl, rfl, trivial⟩, rfl⟩
      | none =>
        refine hgetK_has _ h1 ?_
        refine needK_has rfl ?_
        refine eqK_has_eq (vc v0) rfl ?_
        refine eqK_has_eq _ (i64_succ (by omega)) ?_
        exact Has.intro ⟨(i + 1, none, _), ⟨hlt, sumV_none he hcg ha, (hget_hset_ne _ _ (by decide)).trans h0, hget_hset_same _ (hget_lt h1 ((by intro h; cases h)))⟩, by dsimp only; omega, ⟨rfl, rfl, rfl, rfl, rfl, rfl, trivial⟩, rfl⟩
    | none =>
      dsimp only at he
      refine eqK_has_eq _ (i64_succ (by omega)) ?_
      exact Has.intro ⟨(i + 1, none, _), ⟨hlt, he, h0, h1⟩, by dsimp only; omega, ⟨rfl, rfl, rfl, rfl, rfl, rfl, trivial⟩, rfl⟩
  · have : i = l.length := by omega
    subst this
    rw [List.drop_length] at he
    have he' : sumV l = oa := he.trans (by cases oa <;> rfl)
    refine Has.intro ?_
    refine hgetK_has _ h1 ?_
    refine secK_has (v := vc (oa.getD v0)) rfl (Nat.le_refl _) ?_
    refine hgetK_has _ h0 ?_
    refine needK_has rfl ?_
    refine eqK_has_eq (vc (oa.getD v0)) rfl ?_
    refine hgetK_has (.pcells (vc (oa.getD v0))) (hget_hset_same _ (hget_lt h0 ((by intro h; cases h)))) ?_
    refine secK_has (v := vc (oa.getD v0)) rfl (Nat.le_refl _) ?_
    refine Has.intro (Has.intro ?_)
    rw [he']
    cases oa <;> rfl
end Go.Proofs.YtmickbidffdklaaDoor

namespace Go.Proofs.YtmickbidffdklaaDoor
open Go Go.VM

def rqs (l : List Ct) : List Vc := l.map Ct.rq
def lms (l : List Ct) : List Vc := l.map Ct.lm
theorem map_take {α β : Type} {f : α → β} {l : List α} {i : Nat} {c : α} (h : l[i]? = some c) : (l.map f).take (i + 1) = (l.map f).take i ++ [f c] := by
  rw [List.take_add_one]; congr 1; simp [h]
/-- Two lists that grow side by side. -/
def Two (G : Heap) (l : List Ct) (i : Nat) (v w : AV) : Prop :=
  AppV G v .nil 3 i (flat vc ((rqs l).take i)) ∧ AppV G w .nil 3 i (flat vc ((lms l).take i)) ∧ (tokOf w = none ∨ tokOf w ≠ tokOf v) ∧ (tokOf v = none ∨ tokOf v ≠ tokOf w)
def sum3 (l : List Ct) : PV := .tup [.agg (vc ((sumV (rqs l)).getD v0)), .agg (vc ((sumV (lms l)).getD v0)), .bool ((sumV (rqs l)).isSome && (sumV (lms l)).isSome)]
theorem AppV.tok {G : Heap} {v : AV} {e : Ext} {es n : Nat} {cs : List PV} (h : AppV G v e es n cs) (t : Nat) (ht : tokOf v = some t) : t < G.length := by
  rcases h with ⟨_, _, rfl, _⟩ | ⟨_, _, t', rfl, h⟩
  · cases ht
  · cases ht
    exact hget_lt h ((by intro h; cases h))
theorem Two.zero (G : Heap) (l : List Ct) : Two G l 0 (.pv (.sl .nil 0 [])) (.pv (.sl .nil 0 [])) := ⟨AppV.new rfl, AppV.new rfl, .inl rfl, .inl rfl⟩
theorem Two.box {G : Heap} {l : List Ct} {i : Nat} {v w : AV} (h : Two G l i v w) (z o' : HObj) (hz : ∀ n es, z ≠ .tok n es) : Two (hset (G ++ [z]) G.length o') l i v w :=
  ⟨AppV_put (AppV_grow h.1 [z]) o' (hget_append_same G z) hz, AppV_put (AppV_grow h.2.1 [z]) o' (hget_append_same G z) hz, h.2.2⟩
theorem two_first {G G' : Heap} {l : List Ct} {i : Nat} {v w v' : AV} (h : Two G l i v w) {c : Ct} (hc : l[i]? = some c) (hv : AppV G' v' .nil 3 (i + 1) (flat vc ((rqs l).take i) ++ vc c.rq)) (hf : Fr v G G') (ht : tokOf v' = tokOf v ∨ tokOf v' = some G.length) :
    AppV G' v' .nil 3 (i + 1) (flat vc ((rqs l).take (i + 1))) ∧ AppV G' w .nil 3 i (flat vc ((lms l).take i)) ∧ (tokOf w = none ∨ tokOf w ≠ tokOf v') := by
  obtain ⟨h1, h2, h3, h4⟩ := h
  refine ⟨?_, AppV.keep h2 hf h3, ?_⟩
  · unfold rqs at hv ⊢
    rw [map_take hc, ← flat_snoc]; exact hv
  · cases hw : tokOf w with
    | none => exact .inl rfl
    | some t =>
      refine .inr ?_
      rcases ht with ht | ht
      · rw [ht, ← hw]
        rcases h3 with h3 | h3
        · rw [h3] at hw; cases hw
        · exact h3
      · rw [ht]
        have := AppV.tok h2 t hw
        intro e; injection e with e; omega
theorem two_second {G G' : Heap} {l : List Ct} {i : Nat} {v w w' : AV} (h1 : AppV G v .nil 3 (i + 1) (flat vc ((rqs l).take (i + 1)))) (h2 : AppV G w .nil 3 i (flat vc ((lms l).take i))) (h3 : tokOf w = none ∨ tokOf w ≠ tokOf v) {c : Ct} (hc : l[i]? = some c)
    (hw : AppV G' w' .nil 3 (i + 1) (flat vc ((lms l).take i) ++ vc c.lm)) (hf : Fr w G G') (ht : tokOf w' = tokOf w ∨ tokOf w' = some G.length) : Two G' l (i + 1) v w' := by
  have hvw : tokOf v = none ∨ tokOf v ≠ tokOf w := by
    cases hv : tokOf v with
    | none => exact .inl rfl
    | some t =>
      refine .inr fun e => ?_
      rcases h3 with h3 | h3
      · rw [h3] at e; cases e
      · exact h3 (e.symm.trans hv.symm)
  have hne : tokOf v ≠ none → tokOf w' ≠ tokOf v := fun hn => by
    cases hv : tokOf v with
    | none => exact absurd hv hn
    | some t =>
      rcases ht with ht | ht
      · rw [ht]
        rcases hvw with h | h
        · exact absurd h hn
        · rw [← hv]; exact fun e => h e.symm
      · rw [ht]
        have := AppV.tok h1 t hv
        intro e; injection e with e; omega
  refine ⟨AppV.keep h1 hf hvw, ?_, ?_, ?_⟩
  · unfold lms at hw ⊢
    rw [map_take hc, ← flat_snoc]; exact hw
  · cases hw' : tokOf w' with
    | none => exact .inl rfl
    | some t =>
      refine .inr fun e => ?_
      exact hne (by rw [← e]; simp) (hw'.trans e)
  · cases hv : tokOf v with
    | none => exact .inl rfl
    | some t =>
      refine .inr fun e => ?_
      exact hne (by rw [hv]; simp) (e.symm.trans hv.symm)
/-- The two forms of a list that grows. -/
theorem AppV.forms {G : Heap} {v : AV} {n : Nat} {cs : List PV} (h : AppV G v .nil 3 n cs) : (n = 0 ∧ v = .pv (.sl .nil 0 [])) ∨ (∃ t, v = .tsl t n cs) := by
  rcases h with ⟨h1, _, h3, _⟩ | ⟨_, _, t, h, _⟩
  · exact .inl ⟨h1, h3⟩
  · exact .inr ⟨t, h⟩
end Go.Proofs.YtmickbidffdklaaDoor
