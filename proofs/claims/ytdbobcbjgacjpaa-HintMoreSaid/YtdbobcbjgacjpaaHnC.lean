/-
  Enough; the document's answers on what may be and what is enough.
-/
import Derived.Test.YtdbobcbjgacjpaaHnB
set_option linter.all false
set_option linter.unusedVariables false
set_option linter.unusedSimpArgs false
set_option linter.unusedSectionVars false
namespace Go.Proofs.Ytdbobcbjgacjpaa
open Go Go.VM

theorem get28 {k i : Nat} (hk : k < 2) (hi : i < 8) (F : Nat → Int) : (tab 16 (iv F))[addO (addO 0 (mulE k 8)) (mulE i 1)]? = some (.int .i64 (row F k i)) := by
  rw [addO_eq, addO_eq, mulE_eq, mulE_eq, Nat.zero_add, Nat.mul_one, tab_get _ (by omega)]
  show some (PV.int .i64 (F (k * 8 + i))) = some (.int .i64 (F (8 * k + i)))
  rw [Nat.mul_comm]
def Right (F N : Nat → Int) (m : Int) : Prop := rt F N ∧ 0 ≤ m ∧ m ≤ 255 ∧ en F N (m8 m)
instance (F N : Nat → Int) (m : Int) : Decidable (Right F N m) := by unfold Right; infer_instance
theorem Enough_ok (F N : Nat → Int) (m : Int) : EP (EE env) 15 [.agg (tab 16 (iv F)), .int .i64 m, .agg (tab 2 (iv N))] = some (.bool (decide (Right F N m))) := by
  refine Has.eq (EP_has ?_)
  refine hgetK_has _ rfl ?_
  refine secK_has (v := tab 16 (iv F)) (tab_sec _).1 (tab_sec _).2 ?_
  refine hgetK_has _ rfl ?_
  refine secK_has (v := tab 2 (iv N)) (tab_sec _).1 (tab_sec _).2 ?_
  refine callPK_dec (right_ok F N) (fun h => ?_) (fun h => Has.intro (Has.intro (no fun hh => h hh.1)))
  refine boolK_dec (fun h1 => ?_) (fun h1 => Has.intro (Has.intro (no fun hh => h1 hh.2.1)))
  refine boolK_dec (fun h2 => ?_) (fun h2 => Has.intro (Has.intro (no fun hh => h2 hh.2.2.1)))
  refine hgetK_has _ rfl ?_
  refine secK_has (v := tab 16 (iv F)) (tab_sec _).1 (tab_sec _).2 ?_
  refine hgetK_has _ rfl ?_
  refine secK_has (v := tab 2 (iv N)) (tab_sec _).1 (tab_sec _).2 ?_
  refine callPK_dec (enough_ok F N m h) (fun h3 => ?_) (fun h3 => ?_)
  · exact Has.intro (Has.intro (yes ⟨h, h1, h2, h3⟩))
  · exact Has.intro (Has.intro (no fun hh => h3 hh.2.2.2))

theorem fits_ok (F N : Nat → Int) : EP (EE env) 11 [.agg (tab 16 (iv F)), .agg (tab 2 (iv N))] = some (.bool (decide (rt F N))) := by
  refine Has.eq (EP_has ?_)
  refine loopK_has ?_
  refine iterE_loop (σ := Nat) (fun k => 2 - k) (fun k => [(2, .ptr 0 0), (3, .ptr 1 0), (5, .pv (.int .i64 ((k : Nat) : Int)))]) (fun _ => J2 F N)
    (fun k => k ≤ 2 ∧ ∀ k', k' < k → (∀ i, i < 8 → cb (F (8 * k' + i))) ∧ cb (N k')) (fun k ⟨hk, hr⟩ r => ?_) 0 ⟨by omega, fun k' h => absurd h (by omega)⟩ ⟨rfl, rfl, rfl, trivial⟩ rfl
  refine boolK_dec (fun hc => ?_) (fun hc => ?_)
  · have hk2 : k < 2 := by omega
    refine loopK_has ?_
    refine iterE_loop (σ := Nat) (fun i => 8 - i) (fun i => [(2, .ptr 0 0), (3, .ptr 1 0), (5, .pv (.int .i64 ((k : Nat) : Int))), (6, .pv (.int .i64 ((i : Nat) : Int)))]) (fun _ => J2 F N)
      (fun i => i ≤ 8 ∧ ∀ j, j < i → cb (row F k j)) (fun i ⟨hi, hj⟩ r => ?_) 0 ⟨by omega, fun j h => absurd h (by omega)⟩ ⟨rfl, rfl, rfl, rfl, trivial⟩ rfl
    refine boolK_dec (fun hc => ?_) (fun hc => ?_)
    · have hi8 : i < 8 := by omega
      refine needK_has (by simp; omega) ?_
      refine needK_has (by simp; omega) ?_
      refine hgetK_has _ rfl ?_
      refine getK_has (get28 hk2 hi8 F) ?_
      have bad : ¬ cb (row F k i) → PV.bool false = PV.bool (decide (rt F N)) := fun h => no fun hh => h ((hh k hk2).1 i hi8)
      refine boolK_dec (fun h => ?_) (fun h => ?_)
      · exact Has.intro (Has.intro (Has.intro (Has.intro (bad (by unfold cb; omega)))))
      refine needK_has (by simp; omega) ?_
      refine needK_has (by simp; omega) ?_
      refine hgetK_has _ rfl ?_
      refine getK_has (get28 hk2 hi8 F) ?_
      refine boolK_dec (fun h' => ?_) (fun h' => ?_)
      · exact Has.intro (Has.intro (Has.intro (Has.intro (bad (by unfold cb; omega)))))
      refine eqK_has_eq _ (i64_succ (by omega)) ?_
      refine Has.intro ⟨i + 1, ⟨hi8, fun j hji => ?_⟩, by omega, ⟨rfl, rfl, rfl, rfl, trivial⟩, rfl⟩
      rcases Nat.lt_or_ge j i with h2 | h2
      · exact hj j h2
      · rw [show j = i by omega]; unfold cb; omega
    · have : i = 8 := by omega
      subst this
      refine Has.intro ?_
      refine needK_has (by simp; omega) ?_
      refine hgetK_has _ rfl ?_
      refine getK_has (v := .int .i64 (N k)) (tab_get _ hk2) ?_
      have bad : ¬ cb (N k) → PV.bool false = PV.bool (decide (rt F N)) := fun h => no fun hh => h (hh k hk2).2
      refine boolK_dec (fun h => ?_) (fun h => ?_)
      · exact Has.intro (Has.intro (Has.intro (bad (by unfold cb; omega))))
      refine needK_has (by simp; omega) ?_
      refine hgetK_has _ rfl ?_
      refine getK_has (v := .int .i64 (N k)) (tab_get _ hk2) ?_
      refine boolK_dec (fun h' => ?_) (fun h' => ?_)
      · exact Has.intro (Has.intro (Has.intro (bad (by unfold cb; omega))))
      refine eqK_has_eq _ (i64_succ (by omega)) ?_
      refine Has.intro ⟨k + 1, ⟨hk2, fun k' hk' => ?_⟩, by omega, ⟨rfl, rfl, rfl, trivial⟩, rfl⟩
      rcases Nat.lt_or_ge k' k with h2 | h2
      · exact hr k' h2
      · rw [show k' = k by omega]; exact ⟨fun i hi => hj i hi, by unfold cb; omega⟩
  · have : k = 2 := by omega
    subst this
    refine Has.intro (Has.intro (Has.intro (yes fun k hk => hr k hk)))

/-- What is free on the first nodes of a set. -/
def sf (f : Nat → Int) (u : Nat) : Nat → Int
  | 0 => 0
  | i + 1 => sf f u i + if u.testBit i then f i else 0
theorem sm_sf (f : Nat → Int) (u : Nat) : sm f (nds u) = sf f u 8 := by
  unfold nds
  have : ∀ n, sm f ((List.range n).filter fun i => u.testBit i) = sf f u n := by
    intro n
    induction n with
    | zero => rfl
    | succ n ih =>
      rw [List.range_succ, List.filter_append, sf, ← ih]
      unfold sm
      rw [List.foldl_append]
      cases h : u.testBit n <;> simp [h]
  exact this 8
theorem sf_bd {f : Nat → Int} (hf : ∀ i, i < 8 → cb (f i)) (u : Nat) : ∀ i, i ≤ 8 → 0 ≤ sf f u i ∧ sf f u i ≤ i * 1073741824 := by
  intro i
  induction i with
  | zero => intro _; simp [sf]
  | succ i ih =>
    intro h
    have h1 := ih (by omega)
    have h2 := hf i (by omega)
    unfold cb at h2
    unfold sf
    split <;> omega
theorem bset_get (u : Nat) {i : Nat} (hi : i < 8) : (bset u)[i]? = some (.bool (u.testBit i)) := tab_get _ hi

theorem renough_ok (F N : Nat → Int) (u : Nat) (hf : rt F N) : EP (EE env) 12 [.agg (tab 16 (iv F)), .agg (bset u), .agg (tab 2 (iv N))] = some (.bool (decide (en F N u))) := by
  refine Has.eq (EP_has ?_)
  refine loopK_has ?_
  refine iterE_loop (σ := Nat) (fun k => 2 - k) (fun k => [(3, .ptr 0 0), (4, .ptr 1 0), (5, .ptr 2 0), (7, .pv (.int .i64 ((k : Nat) : Int)))]) (fun _ => [.pcells (tab 16 (iv F)), .pcells (bset u), .pcells (tab 2 (iv N))])
    (fun k => k ≤ 2 ∧ ∀ k', k' < k → N k' ≤ sm (row F k') (nds u)) (fun k ⟨hk, hr⟩ r => ?_) 0 ⟨by omega, fun k' h => absurd h (by omega)⟩ ⟨rfl, rfl, rfl, rfl, trivial⟩ rfl
  refine boolK_dec (fun hc => ?_) (fun hc => ?_)
  · have hk2 : k < 2 := by omega
    have hrow : ∀ i, i < 8 → cb (row F k i) := (hf k hk2).1
    have hN := (hf k hk2).2
    unfold cb at hN
    refine needK_has (by simp; omega) ?_
    refine hgetK_has _ rfl ?_
    refine getK_has (v := .int .i64 (N k)) (tab_get _ hk2) ?_
    refine loopK_has ?_
    refine iterE_up 8 (fun i => [(3, .ptr 0 0), (4, .ptr 1 0), (5, .ptr 2 0), (7, .pv (.int .i64 ((k : Nat) : Int))), (8, .pv (.int .i64 (N k - sf (row F k) u i))), (9, .pv (.int .i64 i))]) (fun _ => [.pcells (tab 16 (iv F)), .pcells (bset u), .pcells (tab 2 (iv N))])
      (fun i hi r => ?_) (fun r => ?_) ⟨rfl, rfl, rfl, rfl, (by show AV.pv (.int .i64 (N k)) = AV.pv (.int .i64 (N k - 0)); rw [Int.sub_zero]), rfl, trivial⟩ rfl
    · have hb := sf_bd hrow u i (by omega)
      have hb1 := hrow i hi
      refine boolK_dec_t (by omega) ?_
      refine needK_has (by simp; omega) ?_
      refine hgetK_has _ rfl ?_
      refine getK_has (v := .bool (u.testBit i)) (tab_get _ hi) ?_
      cases hbit : u.testBit i with
      | true =>
        refine needK_has (by simp; omega) ?_
        refine needK_has (by simp; omega) ?_
        refine hgetK_has _ rfl ?_
        refine getK_has (get28 hk2 hi F) ?_
        have e : sf (row F k) u (i + 1) = sf (row F k) u i + row F k i := by rw [sf, if_pos hbit]
        have hb2 := sf_bd hrow u (i + 1) (by omega)
        refine eqK_has_eq (N k - sf (row F k) u (i + 1)) ((wrap_i64 (by omega) (by omega)).trans (by rw [e]; omega)) ?_
        refine eqK_has_eq _ (i64_succ (by omega)) ?_
        exact Has.intro ⟨⟨rfl, rfl, rfl, rfl, rfl, rfl, trivial⟩, rfl⟩
      | false =>
        have e : sf (row F k) u (i + 1) = sf (row F k) u i := by rw [sf, if_neg (by rw [hbit]; decide), Int.add_zero]
        refine eqK_has_eq _ (i64_succ (by omega)) ?_
        exact Has.intro ⟨⟨rfl, rfl, rfl, rfl, by rw [e]; rfl, rfl, trivial⟩, rfl⟩
    · refine boolK_dec_f (by omega) ?_
      refine Has.intro ?_
      have hs := sm_sf (row F k) u
      refine boolK_dec (fun h => ?_) (fun h => ?_)
      · exact Has.intro (Has.intro (Has.intro (no fun he => by have := he k hk2; omega)))
      · refine eqK_has_eq _ (i64_succ (by omega)) ?_
        refine Has.intro ⟨k + 1, ⟨hk2, fun k' hk' => ?_⟩, by omega, ⟨rfl, rfl, rfl, rfl, trivial⟩, rfl⟩
        rcases Nat.lt_or_ge k' k with h2 | h2
        · exact hr k' h2
        · rw [show k' = k by omega]; omega
  · have : k = 2 := by omega
    subst this
    refine Has.intro (Has.intro (Has.intro (yes fun k hk => hr k hk)))
end Go.Proofs.Ytdbobcbjgacjpaa
