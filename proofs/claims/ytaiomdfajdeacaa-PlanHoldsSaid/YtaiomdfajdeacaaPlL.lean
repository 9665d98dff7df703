/-
  All steps, as they are ranged over.
-/
import Derived.Test.YtaiomdfajdeacaaPlK
set_option linter.all false
set_option linter.unusedVariables false
set_option linter.unusedSimpArgs false
set_option linter.unusedSectionVars false
namespace Go.Proofs.Ytaiomdfajdeacaa
open Go Go.VM

abbrev asgC : VCode := (c10.at [1, 1, 1, 1, 0, 1, 0]).at [0]
abbrev bodC : VCode := (c10.at [1, 1, 1, 1, 0, 1, 0]).at [1]
def lo (r : Regs) (st : LState) : HObj := .loop ⟨st, setL r [(3, .ptr 1 0), (5, .ptr 2 0)], [20], asgC, bodC⟩
def cellOf (v : AV) : HObj := match v with
  | .pv p => .pcells [p]
  | v => .cells [v]
theorem cellOf_ne {v : AV} : cellOf v ≠ .dead ∧ ∀ n es, cellOf v ≠ .tok n es := by
  cases v <;> exact ⟨(by intro h; cases h), (by intro n es h; cases h)⟩
def same1 (i : Nat) (H H' : Heap) : Prop := ∀ o, hget H i = o → o ≠ .dead → (∀ n es, o ≠ .tok n es) → hget H' i = o
def zS : HObj := .pcells [.int .i64 0, .int .i64 0, .int .i64 0]
theorem zS_nt (n es : Nat) : zS ≠ .tok n es := by unfold zS; intro h; cases h
set_option maxHeartbeats 1000000 in
theorem yd (r : Regs) (k : Nat) (acc : List Stp) (hk : acc.length ≤ 100) (s : Stp) (v : AV) (H : Heap) (h1 : hget H 1 = .pcells [.int .i64 (k : Int)]) (h2 : hget H 2 = cellOf v) (h7 : hget H 7 = lo r .ready) (hv : AppV H v .nil 3 acc.length (flat sc acc)) :
    Has (EE env (.yield 7) [.pv (.agg (sc s))] H) (fun y =>
      (acc.length ≥ k ∧ y.1 = .pv (.bool false) ∧ hget y.2 7 = lo r (.done (.exit 0)) ∧ hget y.2 2 = cellOf v ∧ AppV y.2 v .nil 3 acc.length (flat sc acc)) ∨
      (acc.length < k ∧ y.1 = .pv (.bool true) ∧ hget y.2 7 = lo r .ready ∧ ∃ v', hget y.2 2 = cellOf v' ∧ AppV y.2 v' .nil 3 (acc ++ [s]).length (flat sc (acc ++ [s])) ∧ ∀ i, i ≠ 2 → i ≠ 7 → same1 i H y.2)) := by
  have hv0 := hv
  have l7 : 7 < H.length := hget_lt h7 ((by intro h; cases h))
  let H2 : Heap := hset (H ++ [zS]) H.length (.pcells (sc s))
  have k7 : hget H2 7 = lo r .ready := keep2 zS _ h7 ((by intro h; cases h))
  let H3 : Heap := hset H2 7 (lo r .busy)
  have lH2 : H2.length = H.length + 1 := by show (hset _ _ _).length = _; rw [hset_len]; simp
  have s7 : hget H3 7 = lo r .busy := hget_hset_same _ (by omega)
  have keep3 : ∀ i o, i ≠ 7 → hget H i = o → o ≠ .dead → hget H3 i = o := fun i o hi h ho => (hget_hset_ne _ _ hi).trans (keep2 zS _ h ho)
  have s1 := keep3 1 _ (by decide) h1 ((by intro h; cases h))
  have s2 := keep3 2 _ (by decide) h2 cellOf_ne.1
  have sH : hget H3 H.length = .pcells (sc s) := (hget_hset_ne _ _ (by omega)).trans (hget_hset_same _ (by simp))
  have hv3 : AppV H3 v .nil 3 acc.length (flat sc acc) := AppV_put (AppV_put (AppV_grow hv0 [zS]) _ (hget_append_same H zS) zS_nt) _ k7 ((fun _ _ h => by cases h))
  refine EE_has ?_
  refine hgetK_has _ h7 ?_
  refine hgetK_last ?_
  refine needK_has rfl ?_
  refine eqK_has_eq (sc s) rfl ?_
  refine hgetK_has _ k7 ?_
  rcases hv with ⟨hn0, hc0, rfl, _⟩ | ⟨hn0, hc0, t, rfl, ht⟩
  all_goals
    refine hgetK_has _ s2 ?_
    first
      | refine getK_has rfl ?_
      | skip
    refine hgetK_has _ s1 ?_
    refine getK_has rfl ?_
    refine boolK_dec (fun hge => ?_) (fun hge => ?_)
    · refine hgetK_has _ s7 ?_
      refine Has.intro (.inl ⟨by omega, rfl, hget_hset_same _ (by show 7 < H3.length; rw [show H3 = hset H2 7 _ from rfl, hset_len]; omega), (hget_hset_ne _ _ (by decide)).trans s2, AppV_put hv3 _ s7 ((fun _ _ h => by cases h))⟩)
    · refine hgetK_has _ s2 ?_
      first
        | refine getK_has rfl ?_
        | skip
      refine hgetK_has _ sH ?_
      refine secK_has (v := sc s) rfl (Nat.le_refl 3) ?_
      refine app_has (m := 1) (new := sc s) hv3 rfl (by show (acc.length + 1) * 24 ≤ 140737488355328; omega) (fun v' H' hv' hf _ => ?_)
      rw [ap_flat] at hv'
      have f7 := Fr.obj hv3 hf s7 ((by intro h; cases h)) ((fun _ _ h => by cases h))
      have f2 := Fr.obj hv3 hf s2 cellOf_ne.1 cellOf_ne.2
      have hv0' := hv'
      rcases hv' with ⟨hn', _⟩ | ⟨hn', hc', t', rfl, ht'⟩
      · omega
      refine hgetK_has _ f2 ?_
      refine hgetK_has _ ((hget_hset_ne _ _ (by decide)).trans f7) ?_
      have l7' : 7 < H'.length := hget_lt f7 ((by intro h; cases h))
      refine Has.intro (.inr ⟨by omega, rfl, hget_hset_same _ (by rw [hset_len]; omega), .tsl t' (acc.length + 1) (flat sc (acc ++ [s])), (hget_hset_ne _ _ (by decide)).trans (hget_hset_same _ (show 2 < H'.length by omega)), ?_, fun i hi2 hi7 o ho hod hot => ?_⟩)
      · rw [List.length_append]
        exact AppV_put (AppV_put hv0' _ f2 cellOf_ne.2) _ ((hget_hset_ne _ _ (by decide)).trans f7) ((fun _ _ h => by cases h))
      · exact (hget_hset_ne _ _ hi7).trans ((hget_hset_ne _ _ hi2).trans (Fr.obj hv3 hf (keep3 i o hi7 ho hod) hod hot))
end Go.Proofs.Ytaiomdfajdeacaa
