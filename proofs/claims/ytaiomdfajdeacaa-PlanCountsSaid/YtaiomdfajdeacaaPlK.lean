/-
  All steps of the document.
-/
import Derived.Test.YtaiomdfajdeacaaPlJ
set_option linter.all false
set_option linter.unusedVariables false
set_option linter.unusedSimpArgs false
set_option linter.unusedSectionVars false
namespace Go.Proofs.Ytaiomdfajdeacaa
open Go Go.VM

theorem AppV_grow {H : Heap} {v : AV} {e : Ext} {es n : Nat} {cs : List PV} (h : AppV H v e es n cs) (L : Heap) : AppV (H ++ L) v e es n cs := by
  rcases h with h | ⟨h1, h2, t, h3, h4⟩
  · exact .inl h
  · exact .inr ⟨h1, h2, t, h3, (hget_app L (hget_lt h4 (by intro h; cases h))).trans h4⟩
theorem AppV_put {H : Heap} {v : AV} {e : Ext} {es n : Nat} {cs : List PV} (h : AppV H v e es n cs) {i : Nat} {o : HObj} (o' : HObj) (hi : hget H i = o) (ho : ∀ n es, o ≠ .tok n es) : AppV (hset H i o') v e es n cs := by
  rcases h with h | ⟨h1, h2, t, h3, h4⟩
  · exact .inl h
  · refine .inr ⟨h1, h2, t, h3, (hget_hset_ne _ _ (fun e => ?_)).trans h4⟩
    rw [e, hi] at h4
    exact ho _ _ h4
theorem keep2 {H : Heap} {i : Nat} {o : HObj} (z o' : HObj) (h : hget H i = o) (ho : o ≠ .dead) : hget (hset (H ++ [z]) H.length o') i = o := by
  have := hget_lt h ho
  exact (hget_hset_ne _ _ (by omega)).trans ((hget_app _ this).trans h)
theorem sc_len (s : Stp) : (sc s).length = 3 := rfl
theorem ap_flat (acc : List Stp) (s : Stp) : flat sc acc ++ sc s = flat sc (acc ++ [s]) := flat_snoc sc acc s

/-- A list of steps, as it is answered. -/
def stl (l : List Stp) : PV := psl .nil l.length (flat sc l)
set_option maxHeartbeats 1000000 in
theorem rsteps_ok (pod podTo : Kn) (x y : Ext) (now to : List Kn) (hl : now.length ≤ 12) :
    EP (EE env) 9 [.agg (kn pod), .agg (kn podTo), .sl x now.length (kns now), .sl y to.length (kns to)] = some (stl (allS pod podTo now to)) := by
  refine Has.eq (EP_has ?_)
  refine loopK_has ?_
  refine iterE_loop (σ := Kn × List Kn × Ext × List Stp × AV × Heap) (fun s => D s.1 podTo s.2.1 to)
    (fun s => [(2, .pv (.sl s.2.2.1 s.2.1.length (kns s.2.1))), (3, .pv (.sl y to.length (kns to))), (4, .ptr 0 0), (5, .ptr 1 0), (9, s.2.2.2.2.1)]) (fun s => s.2.2.2.2.2)
    (fun s => s.2.1.length = now.length ∧ hget s.2.2.2.2.2 0 = .pcells (kn s.1) ∧ hget s.2.2.2.2.2 1 = .pcells (kn podTo) ∧ AppV s.2.2.2.2.2 s.2.2.2.2.1 .nil 3 s.2.2.2.1.length (flat sc s.2.2.2.1) ∧
      allS pod podTo now to = s.2.2.2.1 ++ allS s.1 podTo s.2.1 to ∧ s.2.2.2.1.length + D s.1 podTo s.2.1 to ≤ 65) (fun ⟨p, l, xl, acc, v, H⟩ ⟨hll, h0, h1, hv, hall, hD⟩ r => ?_)
    (pod, now, x, [], .pv (.sl .nil 0 []), [.pcells (kn pod), .pcells (kn podTo)]) ⟨rfl, rfl, rfl, AppV.new rfl, rfl, by
      have := df_le pod podTo
      have := dl_le now to
      simp only [D, List.length_nil]; omega⟩ ⟨rfl, rfl, rfl, rfl, rfl, trivial⟩ rfl
  dsimp only at hll h0 h1 hv hall hD ⊢
  have hnx := rnext_ok p podTo xl y l to (by omega)
  have hv0 := hv
  rcases hv with ⟨hn0, hc0, rfl, _⟩ | ⟨hn0, hc0, t, rfl, ht⟩
  all_goals
    refine hgetK_has _ h0 ?_
    refine secK_has (v := kn p) rfl (Nat.le_refl _) ?_
    refine hgetK_has _ h1 ?_
    refine secK_has (v := kn podTo) rfl (Nat.le_refl _) ?_
    cases hq : nxt p podTo l to with
    | none =>
      rw [hq] at hnx
      refine callPK_has hnx ?_
      refine hgetK_last ?_
      refine needK_has rfl ?_
      refine eqK_has_eq (sc ⟨0, 0, 0⟩) rfl ?_
      rw [allS_none hq, List.append_nil] at hall
      rw [hall]
      (refine Has.intro (Has.intro (Has.intro ?_)))
      first
        | (have ha : acc = [] := List.eq_nil_of_length_eq_zero hn0
           subst ha
           rfl)
        | (cases acc with
           | nil => exact absurd rfl hn0
           | cons a acc => rfl)
    | some s =>
      rw [hq] at hnx
      have hst := (nxt_ph hq)
      have hDs := D_step (ph_is hst.1 hst.2)
      refine callPK_has hnx ?_
      refine hgetK_last ?_
      refine needK_has rfl ?_
      refine eqK_has_eq (sc s) rfl ?_
      refine hgetK_set ?_
      refine secK_has (v := sc s) rfl (Nat.le_refl 3) ?_
      have hv1 := AppV_put (AppV_grow hv0 [.pcells (sc ⟨0, 0, 0⟩)]) (.pcells (sc s)) (hget_append_same H _) (fun _ _ h => by cases h)
      have hs1 : hget (hset (H ++ [HObj.pcells (sc ⟨0, 0, 0⟩)]) H.length (.pcells (sc s))) H.length = .pcells (sc s) := hget_hset_same _ (by simp)
      have g0 := keep2 (.pcells (sc ⟨0, 0, 0⟩)) (.pcells (sc s)) h0 (by intro h; cases h)
      have g1 := keep2 (.pcells (sc ⟨0, 0, 0⟩)) (.pcells (sc s)) h1 (by intro h; cases h)
      refine app_has (m := 1) (new := sc s) hv1 rfl (by show (acc.length + 1) * 24 ≤ 140737488355328; omega) (fun v' H' hv' hf _ => ?_)
      have f0 := Fr.obj hv1 hf g0 (by intro h; cases h) (fun _ _ h => by cases h)
      have f1 := Fr.obj hv1 hf g1 (by intro h; cases h) (fun _ _ h => by cases h)
      have fs := Fr.obj hv1 hf hs1 (by intro h; cases h) (fun _ _ h => by cases h)
      rw [ap_flat] at hv'
      have hv0' := AppV_put hv' (.pcells (kn (ap p l s).1)) f0 (fun _ _ h => by cases h)
      have step : ∀ xx : Ext, Has (some (Ex.normal, (initRegs [] : Regs), H')) (fun _ => True) := fun _ => Has.intro trivial
      rcases hv' with ⟨hn', _⟩ | ⟨hn', hc', t', rfl, ht'⟩
      · omega
      refine hgetK_has _ f0 ?_
      refine secK_has (v := kn p) rfl (Nat.le_refl _) ?_
      refine hgetK_has _ fs ?_
      refine secK_has (v := sc s) rfl (Nat.le_refl 3) ?_
      refine callPK_has (rapply_ok p xl l (by omega) s) ?_
      refine hgetK_has _ f0 ?_
      refine needK_has rfl ?_
      refine eqK_has_eq (kn (ap p l s).1) rfl ?_
      refine Has.intro ⟨((ap p l s).1, (ap p l s).2, rpx l, acc ++ [s], _, hset H' 0 (.pcells (kn (ap p l s).1))), ⟨?_, ?_, ?_, ?_, ?_, ?_⟩, ?_, ⟨?_, rfl, rfl, rfl, rfl, trivial⟩, rfl⟩
      · dsimp only; rw [ap_len]; exact hll
      · exact hget_hset_same _ (hget_lt f0 (by intro h; cases h))
      · exact (hget_hset_ne _ _ (by decide)).trans f1
      · dsimp only
        rw [List.length_append]
        exact hv0'
      · dsimp only
        rw [hall, allS_some hq, List.append_assoc]; rfl
      · dsimp only
        rw [List.length_append, List.length_singleton]
        omega
      · dsimp only; omega
      · dsimp only
        rw [ap_len]; rfl
end Go.Proofs.Ytaiomdfajdeacaa
